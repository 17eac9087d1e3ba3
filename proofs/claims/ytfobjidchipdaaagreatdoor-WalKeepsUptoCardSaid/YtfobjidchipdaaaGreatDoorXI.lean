/- DkC, DkE, DkF, DkD, DkG, SnB, SnC, SnD, CkF, SnE, SnF -/
import Derived.Test.YtfobjidchipdaaaGreatDoorXH
/- Disks, the walk: files found, read, made safe, renamed, removed. -/
namespace Go.Proofs.YtfobjidchipdaaaGreatDoor.Dk
open Go Go.Proofs.YtfobjidchipdaaaGreatDoor.SL Go.Proofs.YtfobjidchipdaaaGreatDoor.G Go.Proofs.YtfobjidchipdaaaGreatDoor.Pa
set_option linter.unusedSimpArgs false
set_option linter.unusedVariables false
set_option maxRecDepth 100000
variable {B : World} {ro σ σ' : AH} {tag tag' : Nat → Nat}
theorem lk {r M : Nat} {ps : Ps} {k : Str} {K : Value → AH → Prop} (hm : MapIs tag σ (r + 64) M (ps.map kvp)) (hs : SL.Sep ro σ) (hK : K (.pointer ((ps.lookup k).map fun x => (⟨x.1, 0, none⟩ : Addr))) σ) : awp Tryz.prog ro (Instr.lookup 37 (.map (some M)) (.string (S k)) false) K σ := by
  refine awp_lookup_str hm hs u37 u9 ty102 ?_
  rw [kvp_lookup]
  cases h : ps.lookup k with
  | none => rw [h] at hK; exact hK
  | some x => rw [h] at hK; exact hK
theorem find_ok {r M q : Nat} {s : Sl} {ns : List Str} {ps : Ps} {Q : Sl → Int → AH → Prop} (hm : MapIs tag σ (r + 64) M (ps.map kvp)) (hr : r < 64) (hr0 : r ≠ 0) (hs : SL.Sep ro σ) (hrow : Row tag σ q 9 s (ns.map Pa.vS)) (hq : q ≠ 0) (hl : ns.length ≤ 4398046511104)
    (hbad : ns.all dName = false → Q ⟨none, 0, 0⟩ 30 σ)
    (hmiss : ns.all dName = true → (∃ n ∈ ns, ps.lookup n = none) → ∀ tag' σ', Step [0] ro tag σ tag' σ' → Q ⟨none, 0, 0⟩ 31 σ')
    (hok : ns.all dName = true → ∀ bs : List (Nat × Fl), ns.map (fun n => ps.lookup n) = bs.map some → ∀ s' tag' σ', Step [0] ro tag σ tag' σ' → Row tag' σ' 0 102 s' (bs.map fun b => ptr b.1) → Q s' 0 σ') :
    c_disk_table_find B ro (some M) s σ Q := by
  refine disk_table_find_ok fun _ => ?_
  unfold f_disk_table_find
  have hln : s.len = ns.length := by rw [hrow.len, List.length_map]
  have second : ns.all dName = true → ∀ (m j : Nat) (bs : List (Nat × Fl)) (s' : Sl) (tag1 : Nat → Nat) (σ1 : AH), j + m = ns.length → (ns.take j).map (fun n => ps.lookup n) = bs.map some → Step [0] ro tag σ tag1 σ1 → Row tag1 σ1 0 102 s' (bs.map fun b => ptr b.1) → lfpD (l4_disk_table_find B ro (some M) s Q) (s', (j : Int)) σ1 := by
    intro hall m
    induction m with
    | zero =>
      intro j bs s' tag1 σ1 hj hbs st hr'
      refine lfpD.intro ?_
      unfold l4_disk_table_find
      simp only
      rw [if_neg (by omega)]
      unfold j2_disk_table_find
      rw [List.take_of_length_le (by omega)] at hbs
      exact hok hall bs hbs s' tag1 σ1 st hr'
    | succ m ih =>
      intro j bs s' tag1 σ1 hj hbs st hr'
      have hjl : j < ns.length := by omega
      refine lfpD.intro ?_
      unfold l4_disk_table_find
      simp only
      rw [if_pos (by omega)]
      obtain ⟨p, hp, _, hg⟩ := Row.sget (hrow.keep st (by simpa using hq)) st.sep hjl
      refine ⟨p, hp, by omega, by omega, S ns[j], by rw [Int.toNat_natCast]; exact hg j hjl, ?_⟩
      refine lk (hm.keep st (by simp)) st.sep ?_
      refine ⟨_, rfl, ?_⟩
      cases hx : ps.lookup ns[j] with
      | none =>
        rw [if_pos (by simp)]
        exact hmiss hall ⟨_, List.getElem_mem hjl, hx⟩ tag1 σ1 st
      | some x =>
        rw [if_neg (by simp)]
        refine nw_cells (tag := tag1) 0 st.sep fun b tag2 σ2 st2 r2 => ?_
        have hb : bs.length = j := by have := congrArg List.length hbs; simp at this; omega
        refine awp_append1 (hr'.keep (st2 []) (by simp)) (st2 []).sep u140 ty102 rfl rfl (Row.cell1 r2 (st2 []).sep) rfl (by simp; omega) (by decide) fun s2 tag3 σ3 st3 r3 => ?_
        refine ⟨s2, rfl, ?_⟩
        rw [Pa.inc j (by omega)]
        refine ih (j + 1) (bs ++ [x]) s2 tag3 σ3 (by omega) ?_ (st.trans ((st2 [0]).trans st3)) ?_
        · rw [List.take_add_one, List.getElem?_eq_getElem hjl, List.map_append, List.map_append, hbs]
          simp [hx]
        · rw [List.map_append]; exact r3
  suffices ∀ (m j : Nat), j + m = ns.length → (ns.take j).all dName = true → lfpD (l12_disk_table_find B ro (some M) s Q) (j : Int) σ from this _ 0 (Nat.zero_add _) rfl
  intro m
  induction m with
  | zero =>
    intro j hj ha
    refine lfpD.intro ?_
    unfold l12_disk_table_find
    rw [if_neg (by omega)]
    unfold j1_disk_table_find
    rw [List.take_of_length_le (by omega)] at ha
    exact second ha _ 0 [] _ tag σ (Nat.zero_add _) rfl (Step.refl hs) (Row.nil 0 102)
  | succ m ih =>
    intro j hj ha
    have hjl : j < ns.length := by omega
    refine lfpD.intro ?_
    unfold l12_disk_table_find
    rw [if_pos (by omega)]
    obtain ⟨p, hp, _, hg⟩ := Row.sget hrow hs hjl
    refine ⟨p, hp, by omega, by omega, S ns[j], by rw [Int.toNat_natCast]; exact hg j hjl, ?_⟩
    refine rightName_ok ?_
    by_cases c : dName ns[j] = true
    · rw [if_neg (by simpa using c), Pa.inc j (by omega)]
      refine ih (j + 1) (by omega) ?_
      rw [List.take_add_one, List.getElem?_eq_getElem hjl, List.all_append, ha]
      simpa using c
    · rw [if_pos (by simpa using c)]
      refine hbad ?_
      rw [← Bool.not_eq_true, List.all_eq_true]
      exact fun h => c (h _ (List.getElem_mem hjl))

theorem one_map {α β : Type} {f : α → Option β} {n : α} {bs : List β} (h : [n].map f = bs.map some) : ∃ x, f n = some x ∧ bs = [x] := by
  cases bs with
  | nil => cases h
  | cons a l =>
    cases l with
    | nil => exact ⟨a, by simpa using h, rfl⟩
    | cons b l => simp at h
/-! ### a disk -/
abbrev Disk (tag : Nat → Nat) (σ : AH) (r T M : Nat) (cap : Int) (ps : Ps) : Prop := DiskAt 39 104 tag σ r T M cap ps
theorem DiskAt.ptrs {r T M : Nat} {cap : Int} {ps : Ps} (h : Disk tag σ r T M cap ps) (hs : SL.Sep ro σ) : acell ro σ ⟨T, 0, none⟩ = some (.map (some M)) ∧ acell ro σ ((⟨T, 0, none⟩ : Addr).add 1) = some (.int .i64 cap) := by
  obtain ⟨p, hp, hg⟩ := h.cell.ptr hs (by simp)
  cases hp
  exact ⟨hg 0 _ rfl, hg 1 _ rfl⟩
theorem read_ok {r T M : Nat} {cap : Int} {ps : Ps} {n : Str} {Q : Sl → Int → AH → Prop} (h : Disk tag σ r T M cap ps) (hr : r < 64) (hr0 : r ≠ 0) (hs : SL.Sep ro σ) (hbl : ∀ p ∈ ps, p.2.2.b.length ≤ 140737488355328)
    (hno : ∀ e tag' σ', (dName n = false ∧ e = 30) ∨ (dName n = true ∧ ps.lookup n = none ∧ e = 31) → Step [0] ro tag σ tag' σ' → Q ⟨none, 0, 0⟩ e σ')
    (hok : dName n = true → ∀ b f, ps.lookup n = some (b, f) → ∀ s' tag' σ', Step [0] ro tag σ tag' σ' → Row tag' σ' 6 5 s' (f.b.map vU) → Q s' 0 σ') : c_disk_Disk_Read B ro (some ⟨T, 0, none⟩) (S n) σ Q := by
  refine disk_Disk_Read_ok fun _ => ?_
  unfold f_disk_Disk_Read
  refine ⟨_, rfl, _, (h.ptrs hs).1, ?_⟩
  refine nw_cells (tag := tag) 3 hs fun x tag1 σ1 st1 r1 => ?_
  have h1 := h.keep (st1 []) (by simp)
  refine find_ok (q := 3) (ns := [n]) (ps := ps) h1.map hr hr0 (st1 []).sep r1 (by decide) (by simp) ?_ ?_ ?_
  · intro hb
    rw [if_pos (by decide)]
    exact hno 30 tag1 σ1 (.inl ⟨by simpa using hb, rfl⟩) (st1 _)
  · rintro ha ⟨y, hy, hx⟩ tag2 σ2 st2
    rw [if_pos (by decide)]
    rw [List.mem_singleton.1 hy] at hx
    exact hno 31 tag2 σ2 (.inr ⟨by simpa using ha, hx, rfl⟩) ((st1 _).trans st2)
  · intro ha bs hbs s' tag2 σ2 st2 r2
    rw [if_neg (by decide)]
    obtain ⟨⟨b, f⟩, hb, rfl⟩ := one_map hbs
    obtain ⟨p, hp, hg⟩ := r2.ptr st2.sep (by simp)
    have hln := r2.len
    have h2 := h1.keep st2 (by simp; omega)
    obtain ⟨fs, hc, hbt⟩ := (show FileAt 104 tag2 σ2 r b f from h2.nodes _ (mem_lookup hb))
    obtain ⟨p', hp', hg'⟩ := hc.ptr st2.sep (by simp)
    cases hp'
    refine ⟨p, hp, by omega, by rw [hln]; simp, _, hg 0 _ rfl, _, rfl, fs, hg' 0 _ rfl, ?_⟩
    refine Zt.clone_ok (tag := tag2) (hbt.read st2.sep) st2.sep (by rw [List.length_map]; exact hbl _ (mem_lookup hb)) (by simp [storable]) fun s3 tag3 σ3 st3 r3 => ?_
    exact hok (by simpa using ha) b f hb s3 tag3 σ3 ((st1 _).trans (st2.trans (st3 _))) r3
end Go.Proofs.YtfobjidchipdaaaGreatDoor.Dk

/- Disks, the walk: written, made safe, renamed, removed. -/
namespace Go.Proofs.YtfobjidchipdaaaGreatDoor.Dk
open Go Go.Proofs.YtfobjidchipdaaaGreatDoor.SL Go.Proofs.YtfobjidchipdaaaGreatDoor.G Go.Proofs.YtfobjidchipdaaaGreatDoor.Pa
set_option linter.unusedSimpArgs false
set_option linter.unusedVariables false
set_option maxRecDepth 100000
variable {B : World} {ro σ σ' : AH} {tag tag' : Nat → Nat}
theorem u22 : Tryz.prog.underlying 22 = some (.slice 5) := by kernel_rfl
theorem RowC.del {r r' : Nat} {e : TypeId} {s : Sl} {l : List Value} {b : Nat} (h : RowC tag σ r e s l) (hb : tag b = r') (hr : r ≠ r') : RowC tag (SL.del σ b) r e s l := by
  obtain ⟨c, h, x⟩ := h; exact ⟨c, h.del hb hr, x⟩
theorem FileAt.del {tf : TypeId} {r b c r' : Nat} {f : Fl} (h : FileAt tf tag σ r b f) (hc : tag c = r') (h1 : r + 64 * (2 * b + 2) ≠ r') (h2 : r + 64 * (2 * b + 3) ≠ r') : FileAt tf tag (SL.del σ c) r b f := by
  obtain ⟨s, a, x⟩ := h
  exact ⟨s, a.del hc h1, x.del hc h2⟩
def fapp (fs : Fs) (n d : Str) : Fs := match fs.lookup n with
  | some f => aput fs n ⟨f.b ++ d, f.safe⟩
  | none => aput fs n ⟨d, 0⟩
theorem aput_aput {β : Type} (ps : List (Str × β)) (k : Str) (v w : β) : aput (aput ps k v) k w = aput ps k w := by
  induction ps with
  | nil => simp [aput]
  | cons p ps ih =>
    obtain ⟨k', v'⟩ := p
    by_cases c : k = k'
    · simp [aput, c]
    · simp [aput, c, ih]
theorem app_tail {r T M b : Nat} {cap : Int} {ps : Ps} {n d : Str} {f : Fl} {s : Sl} {Q : Int → AH → Prop} (h : Disk tag σ r T M cap ps) (hr : r < 64) (hr0 : r ≠ 0) (hs : SL.Sep ro σ) (hk : ps.lookup n = some (b, f))
    (hx : SL.Read ro σ s (d.map vU)) (hb : f.b.length + d.length ≤ 140737488355328)
    (hQ : ∀ tag' σ', StepS [r] ro tag σ tag' σ' → Disk tag' σ' r T M cap (aput ps n (b, ⟨f.b ++ d, f.safe⟩)) → Q 0 σ') : j10_disk_Disk_Append B ro s Q (some ⟨b, 0, none⟩) σ := by
  unfold j10_disk_Disk_Append
  obtain ⟨fs, hc, hbt⟩ := (show FileAt 104 tag σ r b f from h.nodes _ (mem_lookup hk))
  obtain ⟨p, hp, hg⟩ := hc.ptr hs (by simp)
  cases hp
  refine ⟨_, rfl, fs, hg 0 _ rfl, ?_⟩
  refine awp_appendC hbt hs hx u22 ty5 rfl (by simp [storable]) (by simp; omega) (by decide) fun s' tag1 σ1 st1 r1 => ?_
  refine ⟨s', rfl, _, rfl, ?_⟩
  have st1' := st1 [r + 64 * (2 * b + 3)] (.inr (by simp))
  show stN ((⟨b, 0, none⟩ : Addr).add (0 * 1)) _ _ _ _
  refine (hc.keep st1' (by simp; omega)).st st1'.sep rfl (by simp) rfl fun σ2 st2 r2 => ?_
  refine hQ tag1 σ2 ((st1'.s (by simp; omega)).trans (st2.s (by simp; omega))) ?_
  have st : Step [r + 64 * (2 * b + 3), r + 64 * (2 * b + 2)] ro tag σ tag1 σ2 := (st1'.mono (by simp)).trans (st2.mono (by simp))
  refine h.write hk st (by simp) ⟨s', r2, ?_⟩
  have := r1.keep st2 (by simp; omega)
  rw [← List.map_append] at this
  exact this
theorem append_ok {r T M : Nat} {cap : Int} {ps : Ps} {n d : Str} {s : Sl} {Q : Int → AH → Prop} (h : Disk tag σ r T M cap ps) (hr : r < 64) (hr0 : r ≠ 0) (hc0 : 0 ≤ cap) (hc1 : cap ≤ 1073741824) (hu : used (pfs ps) < 4611686018427387904) (hsl : s.len = d.length) (hdl : d.length ≤ 4611686018427387904)
    (hx : ∀ tag' σ', StepS [0, r] ro tag σ tag' σ' → SL.Read ro σ' s (d.map vU))
    (h30 : dName n = false → Q 30 σ)
    (h32 : dName n = true → cap < (used (pfs ps) + d.length : Nat) → ∀ tag' σ', Step [0] ro tag σ tag' σ' → Q 32 σ')
    (hok : dName n = true → (used (pfs ps) + d.length : Nat) ≤ cap → ∀ ps' tag' σ', StepS [0, r] ro tag σ tag' σ' → Disk tag' σ' r T M cap ps' → pfs ps' = fapp (pfs ps) n d → Q 0 σ') : c_disk_Disk_Append B ro (some ⟨T, 0, none⟩) (S n) s σ Q := by
  refine disk_Disk_Append_ok fun hs => ?_
  unfold f_disk_Disk_Append
  refine rightName_ok ?_
  by_cases c : dName n = true
  · rw [if_neg (by simpa using c)]
    obtain ⟨htT, hoT⟩ := h.cell.tagOf
    refine lent_block T ?_
    have hl0 := h.cell.lend hs (τ := fun _ => none) (i := 1) (v := vI cap) rfl
    have hl1 := h.cell.lend hs (τ := SL.del σ T) (i := 0) (v := .map (some M)) rfl
    refine ⟨_, rfl, cap, hl0, _, rfl, some M, hl1, ?_⟩
    refine used_ok (tag := tag) (h.map.del (by rw [htT]; omega)) h.keys (fun p hp => (h.nodes p hp).del htT (by omega) (by omega)) hr hr0 hs.lent hu fun tag1 τ st1 => ?_
    intro hdis
    have st2 := st1.back hs hdis hoT
    have h2 := h.keep st2 (by simp; omega)
    have hs2 := st2.sep
    rw [SL.w64_eq (by omega) (by omega), hsl]
    by_cases hsp : cap < (used (pfs ps) + d.length : Nat)
    · rw [if_pos (by omega)]
      exact h32 c hsp _ _ st2
    · rw [if_neg (by omega)]
      refine ⟨_, rfl, _, (h2.ptrs hs2).1, ?_⟩
      refine lk h2.map hs2 ?_
      refine ⟨_, rfl, ?_⟩
      have hfl : ∀ b f, ps.lookup n = some (b, f) → f.b.length ≤ used (pfs ps) := fun b f e => by
        have : szOf ps n = f.b.length := by unfold szOf; rw [e]; rfl
        rw [← used_sz h.keys, ← this]
        have hm : szOf ps n ∈ ((ps.map kvp).map fun p => szOf ps p.1) := by
          rw [List.map_map]; exact List.mem_map.2 ⟨_, mem_lookup e, rfl⟩
        clear this e
        generalize ((ps.map kvp).map fun p => szOf ps p.1) = l at hm
        induction l with
        | nil => cases hm
        | cons x l ih => rcases List.mem_cons.1 hm with h | h
                         · rw [List.sum_cons]; omega
                         · rw [List.sum_cons]; have := ih h; omega
      cases hlk : ps.lookup n with
      | none =>
        rw [if_pos (by simp)]
        refine nw_cellsF (tag := setTag tag1 T (tag T)) (fun b => r + 64 * (2 * b + 2)) hs2 fun b tag3 σ3 hro hb st3 r3 => ?_
        have h3 := h2.keep (st3 []) (by simp)
        have hs3 := (st3 []).sep
        refine ⟨_, rfl, _, (h3.ptrs hs3).1, ?_⟩
        refine awp_update_str h3.map hs3 u37 u9 fun σ4 st4 m4 => ?_
        have h4 : Disk tag3 σ4 r T M cap (aput ps n (b, ⟨[], 0⟩)) := h3.put (fun p hp e => h2.free hb p hp e) st4 (by simp) ⟨⟨none, 0, 0⟩, r3.keep st4 (by simp; omega), (Row.nil _ 5).c⟩ m4
        have s4 : StepS [0, r] ro tag σ tag3 σ4 := (st2.s (by simp)).trans (((st3 []).s (by simp)).trans (st4.s (by simp; omega)))
        refine app_tail h4 hr hr0 st4.sep (by rw [lookup_aput, if_pos rfl]) (hx _ _ s4) (by simp; omega) fun tag5 σ5 st5 h5 => ?_
        rw [aput_aput] at h5
        refine hok c (by omega) _ tag5 σ5 (s4.trans (st5.mono (by simp))) h5 ?_
        rw [pfs_put]
        unfold fapp
        rw [pfs_lookup, hlk]; rfl
      | some x =>
        obtain ⟨b, f⟩ := x
        rw [if_neg (by simp)]
        have := hfl b f hlk
        refine app_tail h2 hr hr0 hs2 hlk (hx _ _ (st2.s (by simp))) (by omega) fun tag5 σ5 st5 h5 => ?_
        refine hok c (by omega) _ tag5 σ5 ((st2.s (by simp)).trans (st5.mono (by simp))) h5 ?_
        rw [pfs_put]
        unfold fapp
        rw [pfs_lookup, hlk]; rfl
  · rw [if_pos (by simpa using c)]
    exact h30 (by simpa using c)
end Go.Proofs.YtfobjidchipdaaaGreatDoor.Dk

/- Disks, the walk: made safe, removed, renamed; a new disk. -/
namespace Go.Proofs.YtfobjidchipdaaaGreatDoor.Dk
open Go Go.Proofs.YtfobjidchipdaaaGreatDoor.SL Go.Proofs.YtfobjidchipdaaaGreatDoor.G Go.Proofs.YtfobjidchipdaaaGreatDoor.Pa
set_option linter.unusedSimpArgs false
set_option linter.unusedVariables false
set_option maxRecDepth 100000
variable {B : World} {ro σ σ' : AH} {tag tag' : Nat → Nat}
def sync1 (fs : Fs) (n : Str) : Fs := match fs.lookup n with
  | some f => aput fs n ⟨f.b, f.b.length⟩
  | none => fs
def fsync (fs : Fs) (ns : List Str) : Fs := ns.foldl sync1 fs
theorem fsync_snoc (fs : Fs) (l : List Str) (n : Str) : fsync fs (l ++ [n]) = sync1 (fsync fs l) n := by unfold fsync; rw [List.foldl_append]; rfl
theorem sync_ok {r T M q : Nat} {cap : Int} {ps : Ps} {ns : List Str} {s : Sl} {Q : Int → AH → Prop} (h : Disk tag σ r T M cap ps) (hr : r < 64) (hr0 : r ≠ 0) (hrow : Row tag σ q 9 s (ns.map Pa.vS)) (hq : q ≠ 0) (hl : ns.length ≤ 4398046511104)
    (hno : (ns.all dName = false ∨ ∃ n ∈ ns, ps.lookup n = none) → ∀ e tag' σ', Step [0] ro tag σ tag' σ' → Q e σ')
    (hok : ns.all dName = true → (∀ n ∈ ns, ps.lookup n ≠ none) → ∀ ps' tag' σ', StepS [0, r] ro tag σ tag' σ' → Disk tag' σ' r T M cap ps' → pfs ps' = fsync (pfs ps) ns → Q 0 σ') : c_disk_Disk_Sync B ro (some ⟨T, 0, none⟩) s σ Q := by
  refine disk_Disk_Sync_ok fun hs => ?_
  unfold f_disk_Disk_Sync
  refine ⟨_, rfl, _, (h.ptrs hs).1, ?_⟩
  refine find_ok (q := q) (ns := ns) (ps := ps) h.map hr hr0 hs hrow hq hl ?_ ?_ ?_
  · intro hb
    refine lfpD.intro ?_
    unfold l6_disk_Disk_Sync
    rw [if_neg (by simp)]
    exact hno (.inl hb) _ tag σ (Step.refl hs)
  · intro ha hm tag1 σ1 st1
    refine lfpD.intro ?_
    unfold l6_disk_Disk_Sync
    rw [if_neg (by simp)]
    exact hno (.inr hm) _ tag1 σ1 st1
  · intro ha bs hbs s' tag1 σ1 st1 r1
    have h1 := h.keep st1 (by simp; omega)
    have hbl : bs.length = ns.length := by have := congrArg List.length hbs; simpa using this.symm
    have hln : s'.len = ns.length := by rw [r1.len, List.length_map, hbl]
    have hat : ∀ j (hj : j < ns.length) (hj' : j < bs.length), ps.lookup ns[j] = some bs[j] := fun j hj hj' => by
      have := congrArg (·[j]?) hbs
      simpa [List.getElem?_map, List.getElem?_eq_getElem hj, List.getElem?_eq_getElem hj'] using this
    suffices ∀ (m j : Nat) (ps' : Ps) (tag2 : Nat → Nat) (σ2 : AH), j + m = ns.length → Disk tag2 σ2 r T M cap ps' → pfs ps' = fsync (pfs ps) (ns.take j) → (∀ n, (ps'.lookup n).map (·.1) = (ps.lookup n).map (·.1)) → StepS [r] ro tag1 σ1 tag2 σ2 → lfpD (l6_disk_Disk_Sync B ro s' 0 Q) (j : Int) σ2 from
      this _ 0 ps tag1 σ1 (Nat.zero_add _) h1 rfl (fun _ => rfl) (StepS.refl st1.sep)
    intro m
    induction m with
    | zero =>
      intro j ps' tag2 σ2 hj hd hps _ st2
      refine lfpD.intro ?_
      unfold l6_disk_Disk_Sync
      rw [if_neg (by omega)]
      unfold j5_disk_Disk_Sync
      rw [List.take_of_length_le (by omega)] at hps
      refine hok ha (fun n hn e => ?_) ps' tag2 σ2 ((st1.s (by simp)).trans (st2.mono (by simp))) hd hps
      obtain ⟨j, hj, rfl⟩ := List.getElem_of_mem hn
      rw [hat j hj (by omega)] at e; cases e
    | succ m ih =>
      intro j ps' tag2 σ2 hj hd hps hlk st2
      have hjl : j < ns.length := by omega
      have hjb : j < bs.length := by omega
      refine lfpD.intro ?_
      unfold l6_disk_Disk_Sync
      rw [if_pos (by omega)]
      have r2 := r1.keepS st2 (by simp; omega)
      obtain ⟨p, hp, hg⟩ := r2.ptr st2.sep (by simp; omega)
      obtain ⟨f, hf⟩ : ∃ f, ps'.lookup ns[j] = some (bs[j].1, f) := by
        have := hlk ns[j]
        rw [hat j hjl hjb] at this
        cases e : ps'.lookup ns[j] with
        | none => rw [e] at this; cases this
        | some x => rw [e] at this; simp at this; exact ⟨x.2, by rw [← this]⟩
      have hbj : (bs.map fun b => ptr b.1)[j]? = some (ptr bs[j].1) := by rw [List.getElem?_map, List.getElem?_eq_getElem hjb]; rfl
      generalize bs[j].1 = b at hf hbj
      refine ⟨p, hp, by omega, by omega, some ⟨b, 0, none⟩, by rw [Int.toNat_natCast]; exact hg j _ hbj, _, rfl, ?_⟩
      obtain ⟨fs, hc, hbt⟩ := (show FileAt 104 tag2 σ2 r b f from hd.nodes _ (mem_lookup hf))
      obtain ⟨p', hp', hg'⟩ := hc.ptr st2.sep (by simp)
      cases hp'
      refine ⟨fs, hg' 0 _ rfl, _, rfl, ?_⟩
      have hfl : fs.len = f.b.length := by rw [hbt.len, List.length_map]
      show stN ((⟨b, 0, none⟩ : Addr).add (1 * 1)) _ _ _ _
      refine hc.st st2.sep rfl (by simp) rfl fun σ3 st3 r3 => ?_
      rw [Pa.inc j (by omega)]
      have hd3 : Disk tag2 σ3 r T M cap (aput ps' ns[j] (b, ⟨f.b, f.b.length⟩)) := hd.write hf st3 (by simp) ⟨fs, by rw [← hfl]; exact r3, hbt.keep st3 (by simp; omega)⟩
      refine ih (j + 1) _ tag2 σ3 (by omega) hd3 ?_ (fun n => ?_) (st2.trans (st3.s (by simp; omega)))
      · rw [pfs_put, hps, List.take_add_one, List.getElem?_eq_getElem hjl]
        rw [show ns.take j ++ (some ns[j]).toList = ns.take j ++ [ns[j]] from rfl, fsync_snoc, ← hps]
        unfold sync1
        rw [pfs_lookup, hf]; rfl
      · rw [lookup_aput]
        split
        · rename_i e; subst e; rw [← hlk ns[j], hf]; rfl
        · exact hlk n
theorem remove_ok {r T M q : Nat} {cap : Int} {ps : Ps} {n : Str} {s : Sl} {Q : Int → AH → Prop} (h : Disk tag σ r T M cap ps) (hr : r < 64) (hr0 : r ≠ 0) (hrow : Row tag σ q 9 s [Pa.vS n]) (hq : q ≠ 0) (hn : dName n = true)
    (hQ : ∀ e tag' σ', StepS [0, r] ro tag σ tag' σ' → Disk tag' σ' r T M cap (adel ps n) → Q e σ') : c_disk_Disk_Remove B ro (some ⟨T, 0, none⟩) s σ Q := by
  refine disk_Disk_Remove_ok fun hs => ?_
  unfold f_disk_Disk_Remove
  refine ⟨_, rfl, _, (h.ptrs hs).1, ?_⟩
  have hln : s.len = 1 := hrow.len
  refine find_ok (q := q) (ns := [n]) (ps := ps) h.map hr hr0 hs hrow hq (by simp) ?_ ?_ ?_
  · intro hb; simp [hn] at hb
  · rintro ha ⟨y, hy, hx⟩ tag1 σ1 st1
    rw [List.mem_singleton.1 hy] at hx
    rw [if_pos (by decide)]
    refine hQ _ tag1 σ1 (st1.s (by simp)) ?_
    rw [adel_no hx]
    exact h.keep st1 (by simp; omega)
  · intro ha bs hbs s' tag1 σ1 st1 r1
    rw [if_neg (by decide)]
    have h1 := h.keep st1 (by simp; omega)
    refine lfpD.intro ?_
    unfold l6_disk_Disk_Remove
    rw [if_pos (by omega)]
    obtain ⟨p, hp, hg⟩ := (hrow.keep st1 (by simpa using hq)).ptr st1.sep (by simp)
    refine ⟨p, hp, by omega, by omega, S n, hg 0 _ rfl, _, rfl, _, (h1.ptrs st1.sep).1, ?_⟩
    refine awp_delete_str h1.map st1.sep u37 u9 fun σ2 st2 m2 => ⟨rfl, ?_⟩
    have h2 : Disk tag1 σ2 r T M cap (adel ps n) := h1.rem st2 (by simp) m2
    refine lfpD.intro ?_
    rw [show IntKind.i64.wrap (0 + 1) = 1 from by decide, if_neg (by omega)]
    exact hQ _ tag1 σ2 ((st1.s (by simp)).trans (st2.s (by simp; omega))) h2
theorem rename_ok {r T M : Nat} {cap : Int} {ps : Ps} {a c : Str} {Q : Int → AH → Prop} (h : Disk tag σ r T M cap ps) (hr : r < 64) (hr0 : r ≠ 0) (ha : dName a = true) (hc : dName c = true)
    (hno : ps.lookup a = none → Q 31 σ) (hok : ∀ b f, ps.lookup a = some (b, f) → ∀ σ', StepS [r] ro tag σ tag σ' → Disk tag σ' r T M cap (aput (adel ps a) c (b, f)) → Q 0 σ') : c_disk_Disk_Rename B ro (some ⟨T, 0, none⟩) (S a) (S c) σ Q := by
  refine disk_Disk_Rename_ok fun hs => ?_
  unfold f_disk_Disk_Rename
  refine rightName_ok ?_
  rw [if_neg (by simp [ha])]
  refine rightName_ok ?_
  unfold j2_disk_Disk_Rename
  rw [if_neg (by simp [hc])]
  refine ⟨_, rfl, _, (h.ptrs hs).1, ?_⟩
  refine lk h.map hs ?_
  refine ⟨_, rfl, ?_⟩
  cases hlk : ps.lookup a with
  | none => rw [if_pos (by simp)]; exact hno hlk
  | some x =>
    obtain ⟨b, f⟩ := x
    rw [if_neg (by simp)]
    refine ⟨_, rfl, _, (h.ptrs hs).1, ?_⟩
    refine awp_delete_str h.map hs u37 u9 fun σ1 st1 m1 => ⟨rfl, ?_⟩
    have h1 : Disk tag σ1 r T M cap (adel ps a) := h.rem st1 (by simp) m1
    refine ⟨_, rfl, _, (h1.ptrs st1.sep).1, ?_⟩
    refine awp_update_str h1.map st1.sep u37 u9 fun σ2 st2 m2 => ?_
    have hf : FileAt 104 tag σ2 r b f := (((h.nodes _ (mem_lookup hlk)).keep st1 (by simp; omega) (by simp; omega)).keep st2 (by simp; omega) (by simp; omega))
    refine hok b f hlk σ2 ((st1.s (by simp; omega)).trans (st2.s (by simp; omega))) (h1.put (fun p hp e => ?_) st2 (by simp) hf m2)
    have hp' := mem_adel h.keys hp
    have := inj_of h.nd hp'.1 (mem_lookup hlk) e
    exact hp'.2 (by rw [this])
theorem new_ok {r : Nat} {cap : Int} {Q : Option Addr → Int → AH → Prop} (hno : (cap < 0 ∨ 1073741824 < cap) → Q none 32 σ)
    (hok : 0 ≤ cap → cap ≤ 1073741824 → ∀ T M tag' σ', (∀ R, Step R ro tag σ tag' σ') → Disk tag' σ' r T M cap [] → Q (some ⟨T, 0, none⟩) 0 σ') : c_disk_New B ro cap σ Q := by
  refine disk_New_ok fun hs => ?_
  unfold f_disk_New
  by_cases c : cap < 0 ∨ 1073741824 < cap
  · rw [if_pos c]; exact hno c
  · rw [if_neg c]
    refine nw_map (tag := tag) (r + 64) hs fun M tag1 σ1 st1 m1 => ?_
    refine nw_cells (tag := tag1) r (st1 []).sep fun T tag2 σ2 st2 r2 => ?_
    exact hok (by omega) (by omega) T M tag2 σ2 (fun R => (st1 R).trans (st2 R)) ⟨List.nodup_nil, List.nodup_nil, r2, m1.keep (st2 []) (by simp), fun p hp => by cases hp⟩
end Go.Proofs.YtfobjidchipdaaaGreatDoor.Dk

/- Disks, the walk: the names in order. -/
namespace Go.Proofs.YtfobjidchipdaaaGreatDoor.Dk
open Go Go.Proofs.YtfobjidchipdaaaGreatDoor.SL Go.Proofs.YtfobjidchipdaaaGreatDoor.G Go.Proofs.YtfobjidchipdaaaGreatDoor.Pa Go.Maps Go.Sort Go.Shelf Go.RowKit
set_option linter.unusedSimpArgs false
set_option linter.unusedVariables false
set_option maxRecDepth 100000
variable {B : World} {ro σ σ' : AH} {tag tag' : Nat → Nat}
abbrev RT : Value → Option (DataW Unit × List MemPlace) := fun _ => some (.nil, [])
/-- a map in memory, as the shelf's contracts want it -/
theorem owns {w : World} {b c : Nat} {m : KV} (hm : MapIs tag σ c b m) (hw : Sees ro σ w) (hs : SL.Sep ro σ) (hnd : (m.map (·.1)).Nodup) (hl : ∀ p ∈ m, p.1.length ≤ 128) (hn : m.length ≤ 4398046511104) :
    ∃ D : DataW Unit, w.ownsMap Tryz.prog 9 RT b m.length D ∧ Maps.size D = m.length ∧ (strKeys D).Perm (m.map (·.1)) := by
  obtain ⟨es, clock, hb, he, hbn⟩ := hm.obj
  have hwb := hw b _ (by unfold SL.rd; rw [hs b _ hb]; exact hb)
  have hsz : es.size = m.length := by have := congrArg List.length he; simpa using this
  have hkey : ∀ (i : Nat) (h1 : i < es.toList.length), ∃ h2 : i < m.length, (es.toList[i]).key = .string (S m[i].1) := fun i h1 => by
    have h2 : i < m.length := by rw [← hsz]; simpa using h1
    refine ⟨h2, ?_⟩
    have h := congrArg (·[i]?) he
    simp only [List.getElem?_map, List.getElem?_eq_getElem h1, List.getElem?_eq_getElem h2, Option.map_some] at h
    exact congrArg Prod.fst (Option.some.inj h)
  have hko : ∀ (i : Nat) (h1 : i < es.toList.length) (h2 : i < m.length), WideElems.rd Tryz.prog 9 RT es.toList[i] = some (.string m[i].1, .nil) := fun i h1 h2 => by
    obtain ⟨_, hk⟩ := hkey i h1
    have hlen := hl _ (List.getElem_mem h2)
    unfold WideElems.rd
    rw [hk]
    have : keyOf Tryz.prog 9 (.string (S m[i].1)) = some (.string m[i].1) := by
      unfold keyOf
      rw [u9]
      show mapKey Tryz.prog 9 (.string (S m[i].1)) = _
      unfold mapKey
      rw [u9]
      show (if (S m[i].1).size ≤ maxLen then _ else _) = _
      rw [if_pos (by simp only [S_size, maxLen]; omega)]; rfl
    rw [this]; rfl
  refine ⟨.map ((es.toList.map (WideElems.rg Tryz.prog 9 RT)).foldr DataW.insert []), ⟨es, clock, hwb, ⟨by rw [hsz]; simp only [maxLen]; omega, ⟨hbn.lt, hbn.nd, ?_⟩, ?_⟩, by omega, rfl⟩, ?_, ?_⟩
  · have : es.toList.map (·.key) = (m.map (·.1)).map fun k => Value.string (S k) := by
      apply List.ext_getElem
      · simp [hsz]
      · intro i h1 h2
        simp only [List.getElem_map]
        obtain ⟨_, h⟩ := hkey i (by simpa using h1)
        exact h
    rw [this]
    refine List.Pairwise.map _ (fun a b hab e => hab ?_) hnd
    simpa [S_inj] using e
  · intro x hx
    obtain ⟨i, hi, rfl⟩ := List.getElem_of_mem hx
    obtain ⟨h2, _⟩ := hkey i hi
    exact ⟨_, hko i hi h2⟩
  · show ((es.toList.map (WideElems.rg Tryz.prog 9 RT)).foldr DataW.insert []).length = m.length
    rw [DataW.length_sorted]; simp [hsz]
  · show (((es.toList.map (WideElems.rg Tryz.prog 9 RT)).foldr DataW.insert []).map fun p => strOf p.1).Perm _
    refine ((WideShapes.sorted_perm _).map _).trans ?_
    rw [List.map_map]
    have : es.toList.map ((fun p : Lit × DataW Unit => strOf p.1) ∘ WideElems.rg Tryz.prog 9 RT) = m.map (·.1) := by
      apply List.ext_getElem
      · simp [hsz]
      · intro i h1 h2
        simp only [List.getElem_map, Function.comp]
        have h3 : i < es.toList.length := by simpa using h1
        obtain ⟨h4, _⟩ := hkey i h3
        unfold WideElems.rg
        rw [hko i h3 h4]; rfl
    rw [this]

theorem keys_ok {M : Nat} {Q : Value → AH → Prop} (hQ : ∀ gb tag' σ', (∀ R, Step R ro tag σ tag' σ') → Row tag' σ' 0 37 ⟨some ⟨gb, 0, none⟩, 1, 1⟩ [.map (some M)] → Q (.func (.func 109) #[] #[.pointer (some ⟨gb, 0, none⟩)]) σ') :
    c_maps_Keys_disk_file B ro (some M) σ Q := by
  refine ACalls.of_calls fun w hw hsep => ?_
  refine (callsIn_wide.1 (Tryz.maps_Keys_82 (some M) w)).mono ?_
  rintro e w' ⟨he, rfl⟩
  obtain ⟨N, tag', hN, hst, hrow⟩ := new_row (tag := tag) (w' := w.alloc (.cells #[.map (some M)] 37)) 0 hw hsep (Nat.le_refl w.heap.size) (heap_alloc_new w _)
  exact ⟨_, N, he, (Below.refl _ w).alloc (Nat.le_refl _) _, hN, _, rfl, hQ _ tag' _ hst (hrow _ _ _ rfl rfl (Nat.le_refl _) rfl)⟩

theorem sorted_ok {gb b c : Nat} {m : KV} {Q : Sl → AH → Prop} (r : Nat) (hg : Row tag σ 0 37 ⟨some ⟨gb, 0, none⟩, 1, 1⟩ [.map (some b)]) (hm : MapIs tag σ c b m) (hnd : (m.map (·.1)).Nodup) (hl : ∀ p ∈ m, p.1.length ≤ 128) (hn : m.length ≤ 4398046511104)
    (hQ : ∀ (s : Sl) (tag' : Nat → Nat) (σ' : AH) (ks : List Str), (∀ R, Step R ro tag σ tag' σ') → ks.Perm (m.map (·.1)) → ks.Pairwise (· ≤ ·) → Row tag' σ' r 9 s (ks.map Pa.vS) → Q s σ') : c_slices_Sorted_string B ro (.func (.func 109) #[] #[.pointer (some ⟨gb, 0, none⟩)]) σ Q := by
  refine ACalls.of_calls fun w hw hsep => ?_
  obtain ⟨D, hown, hsz, hperm⟩ := owns hm hw hsep hnd hl hn
  have hcell : w.cell? ⟨gb, 0, none⟩ = some (.map (some b)) := by
    have h1 := Row.cell1 hg hsep
    unfold acell at h1
    rw [cell?_eq]
    cases hr : SL.rd ro σ gb with
    | none => simp only at h1; rw [hr] at h1; cases h1
    | some o => simp only at h1; rw [hw gb o hr]; rw [hr] at h1; exact h1
  have hlt : gb < w.heap.size := by
    rw [cell?_eq] at hcell
    cases hh : w.heap[gb]? with
    | none => simp only at hcell; rw [hh] at hcell; cases hcell
    | some o => exact lt_of_block hh
  have hseq : SeqGives Fence.wide 2 Tryz.prog 109 #[.pointer (some ⟨gb, 0, none⟩)] encStr (fun ss => ss.Perm (strKeys D)) (Maps.size D) w :=
    AnyZ.keys_gives (ρ := Tryz.keys82_ren) { Tryz.keys82 with } Fence.wide _ trivial rfl (by omega) gb b m.length D w hlt hcell hown
  have hsort := AnyZ.sorted_in Tryz.sorted81 Fence.wide 5 trivial trivial trivial trivial rfl (by omega) (Tryz.sorts81 _) (enters_of Tryz.func108 (by kernel_rfl) rfl) 109 #[.pointer (some ⟨gb, 0, none⟩)] trivial (enters_of Tryz.func109 (by kernel_rfl) rfl) _ _ (by rw [hsz]; simp only [maxLen]; omega) (by rw [hsz]; omega) _ hseq
  refine (callsIn_wide.1 hsort).mono ?_
  rintro e w' ⟨v, ss, he, hS, hrow, hnil, hb⟩
  have hpair : (ss.mergeSort (fun x y => decide (x ≤ y))).Pairwise (· ≤ ·) := by
    have := List.pairwise_mergeSort (le := fun x y : List UInt8 => decide (x ≤ y)) (fun a b c h1 h2 => by simp at *; exact List.le_trans h1 h2) (fun a b => by simp; exact List.le_total a b) ss
    simpa using this
  have hpm : (ss.mergeSort (fun x y => decide (x ≤ y))).Perm (m.map (·.1)) := (List.mergeSort_perm _ _).trans (hS.trans hperm)
  have henc : ∀ l : List (List UInt8), l.map encStr = l.map Pa.vS := fun l => rfl
  rcases hrow with ⟨hlen, ⟨rfl, h0⟩ | ⟨g, cap, cur, rfl, hbase, hgb, r1, r2, r3, r4⟩⟩
  · have h0' : ss = [] := List.eq_nil_of_length_eq_zero h0
    subst h0'
    refine ⟨_, fun _ => none, he, hb, News.none _ _, ⟨none, 0, 0⟩, rfl, ?_⟩
    rw [join_none_right]
    exact hQ _ tag σ _ (fun _ => Step.refl hsep) hpm hpair (by simpa using Row.nil r 9)
  · obtain ⟨N, tag', hN, hst, hrow⟩ := new_row (tag := tag) r hw hsep hbase hgb
    refine ⟨_, N, he, hb, hN, ⟨some ⟨g, 0, none⟩, ss.length, cap⟩, rfl, ?_⟩
    refine hQ _ tag' _ _ hst hpm hpair (hrow _ _ _ (by simp) (by rw [r3, Nat.mul_one]) r1 ?_)
    rw [Nat.mul_one] at r4
    rw [r4]; rfl

theorem kvp_keys (ps : Ps) : (ps.map kvp).map (·.1) = ps.map (·.1) := by rw [List.map_map]; rfl
theorem files_ok {r M q : Nat} {ps : Ps} {Q : Sl → AH → Prop} (hm : MapIs tag σ (r + 64) M (ps.map kvp)) (hnd : (ps.map (·.1)).Nodup) (hl : ∀ p ∈ ps, p.1.length ≤ 128) (hn : ps.length ≤ 4398046511104)
    (hQ : ∀ (s : Sl) (tag' : Nat → Nat) (σ' : AH) (ks : List Str), (∀ R, Step R ro tag σ tag' σ') → ks.Perm (ps.map (·.1)) → ks.Pairwise (· ≤ ·) → Row tag' σ' q 9 s (ks.map Pa.vS) → Q s σ') : c_disk_table_Files B ro (some M) σ Q := by
  refine disk_table_Files_ok fun hs => ?_
  unfold f_disk_table_Files
  refine keys_ok (tag := tag) fun gb tag1 σ1 st1 r1 => ?_
  refine sorted_ok q r1 (hm.keep (st1 []) (by simp)) (by rw [kvp_keys]; exact hnd) (fun p hp => ?_) (by simpa using hn) fun s tag' σ' ks st2 hp hs' hr => ?_
  · obtain ⟨p', hp', rfl⟩ := List.mem_map.1 hp
    exact hl p' hp'
  · rw [kvp_keys] at hp
    exact hQ s tag' σ' ks (fun R => (st1 R).trans (st2 R)) hp hs' hr
end Go.Proofs.YtfobjidchipdaaaGreatDoor.Dk

/- Disks, the walk: a crash. -/
namespace Go.Proofs.YtfobjidchipdaaaGreatDoor.Dk
open Go Go.Proofs.YtfobjidchipdaaaGreatDoor.SL Go.Proofs.YtfobjidchipdaaaGreatDoor.G Go.Proofs.YtfobjidchipdaaaGreatDoor.Pa
set_option linter.unusedSimpArgs false
set_option linter.unusedVariables false
set_option maxRecDepth 100000
variable {B : World} {ro σ σ' : AH} {tag tag' : Nat → Nat}
/-- what a crash may leave -/
structure CrashR (fs fs' : Fs) : Prop where
  keys : fs'.map (·.1) = fs.map (·.1)
  file : ∀ k f, fs.lookup k = some f → ∃ m, f.safe ≤ m ∧ m ≤ f.b.length ∧ fs'.lookup k = some ⟨f.b.take m, m⟩
theorem read_tail {s : Sl} {v : Value} {l : List Value} (h : SL.Read ro σ s (v :: l)) (hc : s.len ≤ s.cap) : SL.Read ro σ ⟨cutA s.a 1 s.cap 1, s.len - 1, s.cap - 1⟩ l := by
  obtain ⟨h1, h2, h3⟩ := h
  refine ⟨by simp only; rw [h1]; simp, fun ha => ?_, fun p hp i w hw => ?_⟩
  · unfold cutA at ha
    have hn : s.a ≠ none := fun e => by have := h2 e; cases this
    simp only at ha
    split at ha
    · exact absurd ha hn
    · exact absurd (Option.map_eq_none_iff.1 ha) hn
  · unfold cutA at hp
    simp only at hp
    split at hp
    · rename_i e
      have : l = [] := by have : s.len = (v :: l).length := h1; simp at this; exact List.eq_nil_of_length_eq_zero (by omega)
      subst this; cases hw
    · obtain ⟨p', hp', rfl⟩ := Option.map_eq_some_iff.1 hp
      have := h3 p' hp' (i + 1) w (by simpa using hw)
      have e : (p'.add (1 * 1)).add i = p'.add (i + 1) := by
        obtain ⟨b, o, sp⟩ := p'
        rw [show (⟨b, o, sp⟩ : Addr).add (1 * 1) = ⟨b, o + 1, none⟩ from rfl, add_add, show (⟨b, o, sp⟩ : Addr).add (i + 1) = ⟨b, o + (i + 1), none⟩ from rfl, Nat.add_assoc, Nat.add_comm 1 i]
      rw [e]; exact this
theorem crash_ok {r T M q : Nat} {cap : Int} {ps : Ps} {cs : List Int} {s : Sl} {Q : AH → Prop} (h : Disk tag σ r T M cap ps) (hr : r < 64) (hr0 : r ≠ 0) (hr4 : r ≠ 4) (hcap : s.len ≤ s.cap) (hcs : ∀ tag' σ', StepS [r] ro tag σ tag' σ' → SL.Read ro σ' s (cs.map vI))
    (hl : ∀ p ∈ ps, p.1.length ≤ 128) (hn : ps.length ≤ 4398046511104) (hsf : ∀ p ∈ ps, p.2.2.safe ≤ p.2.2.b.length ∧ p.2.2.b.length < 4611686018427387904)
    (hQ : ∀ ps' tag' σ', StepS [r] ro tag σ tag' σ' → Disk tag' σ' r T M cap ps' → CrashR (pfs ps) (pfs ps') → Q σ') : c_disk_Disk_Crash B ro (some ⟨T, 0, none⟩) s σ Q := by
  refine disk_Disk_Crash_ok fun hs => ?_
  unfold f_disk_Disk_Crash
  refine ⟨_, rfl, _, (h.ptrs hs).1, ?_⟩
  refine files_ok (q := 4) h.map h.keys hl hn fun ls tag1 σ1 ks st1 hp hso r1 => ?_
  have h1 := h.keep (st1 []) (by simp)
  have hln : ls.len = ks.length := by rw [r1.len, List.length_map]
  have hknd : ks.Nodup := hp.nodup_iff.2 h.keys
  have hkl : ks.length = ps.length := by rw [hp.length_eq, List.length_map]
  suffices ∀ (m j : Nat) (cs' : List Int) (s' : Sl) (ps' : Ps) (σ2 : AH), j + m = ks.length → s'.len ≤ s'.cap → (∀ σ', SL.Read ro σ' s (cs.map vI) → SL.Read ro σ' s' (cs'.map vI)) → Disk tag1 σ2 r T M cap ps' → StepS [r] ro tag1 σ1 tag1 σ2 →
      ps'.map (·.1) = ps.map (·.1) → (∀ k ∈ ks.drop j, ps'.lookup k = ps.lookup k) → (∀ k ∈ ks.take j, ∀ b f, ps.lookup k = some (b, f) → ∃ m, f.safe ≤ m ∧ m ≤ f.b.length ∧ ps'.lookup k = some (b, ⟨f.b.take m, m⟩)) →
      lfpD (l4_disk_Disk_Crash B ro (some ⟨T, 0, none⟩) ls Q) (s', (j : Int)) σ2 from
    this _ 0 cs s ps σ1 (Nat.zero_add _) hcap (fun _ x => x) h1 (StepS.refl (st1 []).sep) rfl (fun _ _ => rfl) (fun k hk => by cases hk)
  intro m
  induction m with
  | zero =>
    intro j cs' s' ps' σ2 hj hc' hrd hd st2 hkeys hrest hdone
    refine lfpD.intro ?_
    unfold l4_disk_Disk_Crash
    simp only
    rw [if_neg (by omega)]
    rw [List.take_of_length_le (by omega)] at hdone
    refine hQ ps' tag1 σ2 (((st1 []).s (by simp)).trans st2) hd ⟨by rw [pfs_keys, pfs_keys, hkeys], fun k f hf => ?_⟩
    rw [pfs_lookup] at hf
    obtain ⟨⟨b, f'⟩, hb, rfl⟩ := Option.map_eq_some_iff.1 hf
    obtain ⟨m, e1, e2, e3⟩ := hdone k (hp.mem_iff.2 (List.mem_map.2 ⟨_, mem_lookup hb, rfl⟩)) b f' hb
    exact ⟨m, e1, e2, by rw [pfs_lookup, e3]; rfl⟩
  | succ m ih =>
    intro j cs' s' ps' σ2 hj hc' hrd hd st2 hkeys hrest hdone
    have hjl : j < ks.length := by omega
    have hs2 := st2.sep
    have edrop : ks.drop j = ks[j] :: ks.drop (j + 1) := List.drop_eq_getElem_cons hjl
    have etake : ks.take (j + 1) = ks.take j ++ [ks[j]] := by rw [List.take_add_one, List.getElem?_eq_getElem hjl]; rfl
    have hnd2 : ks[j] ∉ ks.drop (j + 1) := by
      have : (ks.drop j).Nodup := List.Nodup.sublist (List.drop_sublist _ _) hknd
      rw [edrop, List.nodup_cons] at this; exact this.1
    have hnd3 : ks[j] ∉ ks.take j := by
      have : (ks.take (j + 1)).Nodup := List.Nodup.sublist (List.take_sublist _ _) hknd
      rw [etake, List.nodup_append] at this
      exact fun hm => this.2.2 _ hm _ (by simp) rfl
    obtain ⟨p, hp', _, hg⟩ := Row.sget (r1.keepS st2 (by simp; omega)) hs2 hjl
    have hk := hrest ks[j] (by rw [edrop]; exact List.mem_cons_self)
    have hin : ks[j] ∈ ps.map (·.1) := hp.mem_iff.1 (List.getElem_mem hjl)
    have hgj := hg j hjl
    generalize ks[j] = k at hk hin hgj edrop etake hnd2 hnd3
    obtain ⟨b, f, hb⟩ : ∃ b f, ps.lookup k = some (b, f) := by
      cases e : ps.lookup k with
      | none => exact absurd hin (lookup_key.1 e)
      | some x => exact ⟨x.1, x.2, rfl⟩
    rw [hb] at hk
    have hsz := hsf _ (mem_lookup hb)
    simp only at hsz
    refine lfpD.intro ?_
    unfold l4_disk_Disk_Crash
    simp only
    rw [if_pos (by omega)]
    refine ⟨p, hp', by omega, by omega, S k, by rw [Int.toNat_natCast]; exact hgj, _, rfl, _, (hd.ptrs hs2).1, ?_⟩
    refine lk hd.map hs2 ?_
    rw [hk]
    obtain ⟨fs, hc, hbt⟩ := (show FileAt 104 tag1 σ2 r b f from hd.nodes _ (mem_lookup hk))
    obtain ⟨p2, hp2, hg2⟩ := hc.ptr hs2 (by simp)
    cases hp2
    have hfl : fs.len = f.b.length := by rw [hbt.len, List.length_map]
    refine ⟨_, rfl, _, rfl, _, rfl, fs, hg2 0 _ rfl, f.safe, hg2 1 _ rfl, ?_⟩
    rw [SL.w64_eq (by omega) (by omega), hfl]
    -- the file cut behind
    have next : ∀ (m' : Nat) (cs2 : List Int) (s2 : Sl) (ps2 : Ps) (σ3 : AH), f.safe ≤ m' → m' ≤ f.b.length → s2.len ≤ s2.cap → (∀ σ', SL.Read ro σ' s (cs.map vI) → SL.Read ro σ' s2 (cs2.map vI)) → Disk tag1 σ3 r T M cap ps2 → StepS [r] ro tag1 σ1 tag1 σ3 → ps2.map (·.1) = ps'.map (·.1) → (∀ n, ps2.lookup n = if n = k then some (b, ⟨f.b.take m', m'⟩) else ps'.lookup n) →
        j7_disk_Disk_Crash B ro (some ⟨T, 0, none⟩) ls (j : Int) Q (lfpD (l4_disk_Disk_Crash B ro (some ⟨T, 0, none⟩) ls Q)) s2 σ3 := by
      intro m' cs2 s2 ps2 σ3 hm1 hm2 hc2 hrd2 hd2 st3 hk2 hlk2
      unfold j7_disk_Disk_Crash
      rw [Pa.inc j (by omega)]
      refine ih (j + 1) cs2 s2 ps2 σ3 (by omega) hc2 hrd2 hd2 st3 (hk2.trans hkeys) (fun n hn => ?_) (fun n hn b' f' hf' => ?_)
      · rw [hlk2, if_neg (fun e => hnd2 (by rw [← e]; exact hn))]
        exact hrest n (by rw [edrop]; exact List.mem_cons_of_mem _ hn)
      · rw [etake] at hn
        rcases List.mem_append.1 hn with h | h
        · obtain ⟨m2, e1, e2, e3⟩ := hdone n h b' f' hf'
          refine ⟨m2, e1, e2, ?_⟩
          rw [hlk2, if_neg (fun e => hnd3 (by rw [← e]; exact h))]; exact e3
        · obtain rfl := List.mem_singleton.1 h
          rw [hb] at hf'; cases hf'
          exact ⟨m', hm1, hm2, by rw [hlk2, if_pos rfl]⟩
    by_cases c0 : (f.b.length : Int) - (f.safe : Int) = 0
    · rw [if_pos c0]
      refine next f.safe cs' s' ps' σ2 (Nat.le_refl _) hsz.1 hc' hrd hd st2 rfl fun n => ?_
      split
      · rename_i e; subst e
        rw [hk, List.take_of_length_le (by omega)]
      · rfl
    · rw [if_neg c0]
      -- what stays
      have cut : ∀ (keep : Nat) (cs2 : List Int) (s2 : Sl), f.safe + keep ≤ f.b.length → s2.len ≤ s2.cap → (∀ σ', SL.Read ro σ' s (cs.map vI) → SL.Read ro σ' s2 (cs2.map vI)) → j18_disk_Disk_Crash B ro (some ⟨T, 0, none⟩) ls (j : Int) (some ⟨b, 0, none⟩) Q (lfpD (l4_disk_Disk_Crash B ro (some ⟨T, 0, none⟩) ls Q)) s2 (keep : Int) σ2 := by
        intro keep cs2 s2 hkp hc2 hrd2
        unfold j18_disk_Disk_Crash
        refine ⟨_, rfl, f.safe, hg2 1 _ rfl, _, rfl, ?_⟩
        rw [SL.w64_eq (by omega) (by omega)]
        show stN ((⟨b, 0, none⟩ : Addr).add (1 * 1)) _ _ _ _
        refine hc.st hs2 rfl (by simp) rfl fun σ3 st3 r3 => ?_
        have hbt3 := hbt.keep st3 (by simp; omega)
        obtain ⟨p3, hp3, hg3⟩ := r3.ptr st3.sep (by simp)
        cases hp3
        refine ⟨_, rfl, _, rfl, _, rfl, fs, hg3 0 _ rfl, (f.safe : Int) + keep, hg3 1 _ rfl, (f.safe : Int) + keep, hg3 1 _ rfl, ?_⟩
        obtain ⟨cc, hrw, hx1, hx2⟩ := hbt3
        refine ⟨⟨⟨by omega, by omega⟩, ⟨by omega, by omega⟩, trivial⟩, _, rfl, ?_⟩
        have etn : Int.toNat ((f.safe : Int) + (keep : Int)) = f.safe + keep := by omega
        rw [etn, cutA_zero, Nat.sub_zero]
        show stN ((⟨b, 0, none⟩ : Addr).add (0 * 1)) _ _ _ _
        refine r3.st st3.sep rfl (by simp) rfl fun σ4 st4 r4 => ?_
        have stt : Step [r + 64 * (2 * b + 2)] ro tag1 σ2 tag1 σ4 := st3.trans st4
        have hrow : RowC tag1 σ4 (r + 64 * (2 * b + 3)) 5 ⟨fs.a, f.safe + keep, f.safe + keep⟩ ((f.b.take (f.safe + keep)).map vU) := by
          refine ⟨cc, ?_, Nat.le_refl _, by simp only; omega⟩
          have := (hrw.take (n := f.safe + keep) (by rw [List.length_map]; omega)).keep st4 (by simp; omega)
          rw [List.map_take]; exact this
        have hd4 : Disk tag1 σ4 r T M cap (aput ps' k (b, ⟨f.b.take (f.safe + keep), f.safe + keep⟩)) := hd.write hk stt (by simp) ⟨_, r4, hrow⟩
        refine next (f.safe + keep) cs2 s2 _ σ4 (by omega) hkp hc2 hrd2 hd4 (st2.trans (stt.s (by simp; omega))) (aput_keys hk) fun n => ?_
        rw [lookup_aput]
      by_cases c1 : (0 : Int) < (s'.len : Int)
      · rw [if_pos c1]
        have hrdn := hrd σ2 (hcs tag1 σ2 (((st1 []).s (by simp)).trans st2))
        cases cs' with
        | nil => have := hrdn.1; simp at this; omega
        | cons c cs' =>
          obtain ⟨pa, hpa⟩ : ∃ pa, s'.a = some pa := by
            cases e : s'.a with
            | none => have := hrdn.2.1 e; cases this
            | some pa => exact ⟨pa, rfl⟩
          refine ⟨pa, hpa, by omega, c1, ⟨trivial, by simp only [cutHi]; omega⟩, c, hrdn.2.2 pa hpa 0 _ rfl, ?_⟩
          rw [show Int.toNat 1 = 1 from rfl]
          have hv : ∃ keep : Nat, (if (f.b.length : Int) - (f.safe : Int) < (if c < 0 then 0 else c) then (f.b.length : Int) - (f.safe : Int) else (if c < 0 then 0 else c)) = (keep : Int) ∧ f.safe + keep ≤ f.b.length := by
            by_cases h2 : c < 0
            · rw [if_pos h2, if_neg (by omega)]; exact ⟨0, rfl, by omega⟩
            · rw [if_neg h2]
              by_cases h1 : (f.b.length : Int) - (f.safe : Int) < c
              · rw [if_pos h1]; exact ⟨f.b.length - f.safe, by omega, by omega⟩
              · rw [if_neg h1]; exact ⟨c.toNat, by omega, by omega⟩
          obtain ⟨keep, hv1, hv2⟩ := hv
          rw [hv1]
          exact cut keep cs' _ hv2 (by simp only; omega) fun σ' x => read_tail (hrd σ' x) hc'
      · rw [if_neg c1]
        exact cut 0 cs' s' (by omega) hc' hrd
end Go.Proofs.YtfobjidchipdaaaGreatDoor.Dk

/- Snapshots, the walk: names, the manifest, a snapshot loaded. -/
namespace Go.Proofs.YtfobjidchipdaaaGreatDoor.Wi
open Go Go.Proofs.YtfobjidchipdaaaGreatDoor.SL
theorem Tail.del {tag : Nat → Nat} {σ : AH} {q b x : Nat} {s : Sl} {l : Str} (h : Tail tag σ q s l) (hb : tag b = x) (hq : q ≠ x) : Tail tag (SL.del σ b) q s l := by
  rcases h with h | ⟨g, cs, k, h1, h2, h3, h4⟩
  · exact .inl h
  · exact .inr ⟨g, cs, k, h1, h2, by unfold SL.del; rw [if_neg (fun e => hq (by rw [← h2, e, hb]))]; exact h3, h4⟩
theorem RdAt.del {tag : Nat → Nat} {σ : AH} {r A b x : Nat} {y : Rd} (h : RdAt tag σ r A y) (hb : tag b = x) (hr : r ≠ x) (h6 : 6 ≠ x) : RdAt tag (SL.del σ b) r A y := by
  obtain ⟨s, h1, h2, h3⟩ := h
  exact ⟨s, h1.del hb hr, h2.del hb h6, h3⟩
end Go.Proofs.YtfobjidchipdaaaGreatDoor.Wi
namespace Go.Proofs.YtfobjidchipdaaaGreatDoor.Sn
open Go Go.Proofs.YtfobjidchipdaaaGreatDoor.SL Go.Proofs.YtfobjidchipdaaaGreatDoor.G Go.Proofs.YtfobjidchipdaaaGreatDoor.Pa Go.Proofs.YtfobjidchipdaaaGreatDoor.Wi Go.Proofs.YtfobjidchipdaaaGreatDoor.Dk
set_option linter.unusedSimpArgs false
set_option linter.unusedVariables false
set_option maxRecDepth 100000
variable {B : World} {ro σ σ' : AH} {tag tag' : Nat → Nat}
theorem dec1 {k : Nat} (h : k < 10) : Lib.decDigits k = [UInt8.ofNat (48 + k)] := by rw [Lib.decDigits, dif_pos h]
/-- the file of the snapshot with the number k, the manifest's file, the one ahead of it -/
def dfile (k : Nat) : Str := [115, 46, 115, UInt8.ofNat (48 + k)]
def manN : Str := [115, 46, 109, 97, 110]
def tmpN : Str := [115, 46, 116, 109, 112]
def man (k : Nat) (d : Str) : Str := frame (nums [(k : Int), (d.length : Int), (crc d : Int)])
theorem rightS_ok {Q : Bool → AH → Prop} (hQ : Q true σ) : c_snap_rightName B ro (S [115]) σ Q := by
  refine snap_rightName_ok fun _ => ?_
  unfold f_snap_rightName
  rw [if_pos (by refine ⟨?_, by decide⟩; rw [show (⟨#[]⟩ : ByteArray) = S [] from rfl, S_inj]; simp)]
  refine trim_ok (cs := [97, 98, 99, 100, 101, 102, 103, 104, 105, 106, 107, 108, 109, 110, 111, 112, 113, 114, 115, 116, 117, 118, 119, 120, 121, 122, 48, 49, 50, 51, 52, 53, 54, 55, 56, 57, 45]) (by decide) (by decide) (by decide) ?_
  unfold j1_snap_rightName
  rw [show Lib.trimS [115] _ = [] from by decide]
  exact hQ
theorem dataFile_ok {k : Nat} {Q : ByteArray → AH → Prop} (g : Glob ro) (hk : k < 10) (hQ : Q (S (dfile k)) σ) : c_snap_dataFile B ro (S [115]) (k : Int) σ Q := by
  refine snap_dataFile_ok fun _ => ?_
  unfold f_snap_dataFile
  refine ⟨by decide, itoa_ok g (by omega) ⟨?_, ?_⟩⟩
  · rw [dec1 hk, show (⟨#[46, 115]⟩ : ByteArray) = S [46, 115] from rfl, S_append, S_size', S_size']; simp
  · rw [dec1 hk, show (⟨#[46, 115]⟩ : ByteArray) = S [46, 115] from rfl, S_append, S_append]; exact hQ
theorem rightN_nat {n : Nat} (h : n < 4611686018427387904) : rightN (n : Int) = true := by unfold rightN; simp; omega
theorem man_right {k : Nat} {d : Str} (hk : k < 4611686018427387904) (hd : d.length < 4611686018427387904) : [(k : Int), (d.length : Int), (crc d : Int)].all rightN = true := by
  have := crc_lt d
  simp [rightN_nat hk, rightN_nat hd, rightN_nat (n := crc d) (by omega)]
theorem man_len {k : Nat} {d : Str} (hk : k < 4611686018427387904) (hd : d.length < 4611686018427387904) : (nums [(k : Int), (d.length : Int), (crc d : Int)]).length ≤ 27 := by
  have := nums_len (man_right hk hd); simpa using this
theorem mbytes_ok {k q : Nat} {d : Str} {Q : Sl → AH → Prop} (hq : q ≠ 0 ∧ q ≠ 1 ∧ q ≠ 3 ∧ q ≠ 7) (hk : k < 4611686018427387904) (hd : d.length < 4611686018427387904) (hQ : ∀ s' tag' σ', Step [1, q] ro tag σ tag' σ' → Row tag' σ' q 5 s' ((man k d).map vU) → Q s' σ') : c_snap_manifest_bytes B ro (d.length : Int) (crc d : Int) (k : Int) σ Q := by
  refine snap_manifest_bytes_ok fun hs => ?_
  unfold f_snap_manifest_bytes
  refine nw_cells (tag := tag) 7 hs fun x tag1 σ1 st1 r1 => ?_
  obtain ⟨p, hp, hg⟩ := r1.ptr (st1 []).sep (by simp)
  cases hp
  refine ⟨_, hg 2 _ rfl, _, hg 0 _ rfl, _, hg 1 _ rfl, ?_⟩
  refine nw_cells (tag := tag1) 3 (st1 []).sep fun y tag2 σ2 st2 r2 => ?_
  refine numbers_ok (tag := tag2) (q := 1) (ns := [(k : Int), (d.length : Int), (crc d : Int)]) (st2 []).sep rfl (by simp) (fun tag' σ' st => (r2.keep st (by decide)).read st.sep) (fun h => by rw [man_right hk hd] at h; cases h) fun _ s3 tag3 σ3 st3 r3 => ?_
  have hl := man_len hk hd
  refine frame_ok (tag := tag3) (q := q) hq.1 st3.sep (by rw [r3.len, List.length_map]) (fun tag' σ' st => (r3.keep st (by simp)).read st.sep) (fun h => by omega) fun _ s4 tag4 σ4 st4 r4 => ?_
  exact hQ s4 tag4 σ4 ((st1 _).trans ((st2 _).trans ((st3.mono (by simp)).trans (st4 _ (by simp))))) r4
theorem unframe_man {k : Nat} {d : Str} (hk : k < 4611686018427387904) (hd : d.length < 4611686018427387904) : unframe (man k d) = (nums [(k : Int), (d.length : Int), (crc d : Int)], (man k d).length, 0) := by
  have := unframe_frame (p := nums [(k : Int), (d.length : Int), (crc d : Int)]) (by have := man_len hk hd; omega) []
  rw [List.append_nil] at this
  unfold man
  rw [this, frame_len]
theorem readManifest_ok {r T M : Nat} {cap : Int} {ps : Ps} {Q : Int → Int → Int → Bool → AH → Prop} (h : Disk tag σ r T M cap ps) (hr : r < 64) (hr0 : r ≠ 0) (hbl : ∀ p ∈ ps, p.2.2.b.length ≤ 140737488355328)
    (hno : ps.lookup manN = none → ∀ tag' σ', StepS [0, 7] ro tag σ tag' σ' → Q 0 0 0 false σ')
    (hyes : ∀ b k d n, ps.lookup manN = some (b, ⟨man k d, n⟩) → k < 4611686018427387904 → d.length < 4611686018427387904 → ∀ tag' σ', StepS [0, 7, 8, 31] ro tag σ tag' σ' → Q (d.length : Nat) (crc d : Nat) (k : Nat) true σ')
    (hgood : ps.lookup manN = none ∨ ∃ b k d n, ps.lookup manN = some (b, ⟨man k d, n⟩) ∧ k < 4611686018427387904 ∧ d.length < 4611686018427387904) : c_snap_readManifest B ro (some ⟨T, 0, none⟩) (S [115]) σ Q := by
  refine snap_readManifest_ok fun hs => ?_
  unfold f_snap_readManifest
  refine nw_cells (tag := tag) 7 hs fun x tag1 σ1 st1 r1 => ?_
  refine ⟨by decide, ?_⟩
  rw [show (⟨#[46, 109, 97, 110]⟩ : ByteArray) = S [46, 109, 97, 110] from rfl, S_append]
  refine read_ok (n := manN) (h.keep (st1 []) (by simp)) hr hr0 (st1 []).sep hbl ?_ ?_
  · rintro e tag2 σ2 he st2
    have hne : ¬ e = 0 := by rcases he with ⟨_, rfl⟩ | ⟨_, _, rfl⟩ <;> decide
    rw [if_pos hne]
    refine (r1.keep st2 (by decide)).stAll st2.sep rfl (by simp [storable]) fun σ3 st3 r3 => ?_
    obtain ⟨p, hp, hg⟩ := r3.ptr st3.sep (by simp)
    cases hp
    refine ⟨0, 0, 0, cellsAt_of 0 fun j v hj => by have := hg j v hj; rwa [Nat.mul_one, ← Nat.zero_add j] at this, ?_⟩
    refine hno ?_ tag2 σ3 (((st1 []).s (by simp)).trans ((st2.s (by decide)).trans (st3.s (by decide))))
    rcases he with ⟨h1, _⟩ | ⟨_, h2, _⟩
    · exact absurd h1 (by decide)
    · exact h2
  · intro _ b f hb s2 tag2 σ2 st2 r2
    rw [if_neg (by decide)]
    obtain ⟨b', k, d, n, hlk, hk, hd⟩ := hgood.resolve_left (by rw [hb]; simp)
    rw [hb] at hlk
    obtain ⟨rfl, rfl⟩ : b = b' ∧ f = ⟨man k d, n⟩ := by simpa using hlk
    have hun := unframe_man hk hd
    have hml := man_len hk hd
    have hmn : (man k d).length ≤ 35 := by unfold man; rw [frame_len]; omega
    have r2 : Row tag2 σ2 6 5 s2 ((man k d).map vU) := r2
    have hsl : s2.len = (man k d).length := by rw [r2.len, List.length_map]
    refine unframe_ok (tag := tag2) (k := 0) (l := man k d) st2.sep (by have := r2.capAt; rw [List.length_map] at this; omega) (Nat.zero_le _) (by omega) (fun tag' σ' st => (r2.keep st (by simp)).read st.sep) ?_ ?_
    · intro he; rw [List.drop_zero, hun] at he; exact absurd rfl he
    · intro _ s3 tag3 σ3 st3 r3
      rw [List.drop_zero, hun] at r3 ⊢
      rw [if_neg (by simp [hsl])]
      have r3 : Row tag3 σ3 6 5 s3 ((nums [(k : Int), (d.length : Int), (crc d : Int)]).map vU) := r3
      have hp1 := r3.read (st3 []).sep
      refine newReader_ok (tag := tag3) (r := 31) hp1 (st3 []).sep (by omega) fun A tag4 σ4 st4 rd4 => ?_
      refine rdNum_ok rd4 (by decide) (st4 []).sep fun σ5 st5 rd5 => ?_
      have e1 : nums [(k : Int), (d.length : Int), (crc d : Int)] = vput k ++ (vput d.length ++ (vput (crc d) ++ [])) := by
        unfold nums; simp
      have hc := crc_lt d
      rw [e1, rnum_put hk] at rd5 ⊢
      refine nw_cells (tag := tag4) 8 st5.sep fun y tag6 σ6 st6 r6 => ?_
      refine r6.stAll (st6 []).sep rfl (by simp [storable]) fun σ7 st7 r7 => ?_
      have rd7 := (rd5.keep (st6 []) (by simp) (by simp)).keep st7 (by decide) (by decide)
      refine rdNum_ok rd7 (by decide) st7.sep fun σ8 st8 rd8 => ?_
      rw [rnum_put hd] at rd8 ⊢
      refine rdNum_ok rd8 (by decide) st8.sep fun σ9 st9 rd9 => ?_
      rw [rnum_put (by omega)] at rd9 ⊢
      have r9 := (r7.keep st8 (by decide)).keep st9 (by decide)
      show stN ((⟨y, 0, none⟩ : Addr).add (0 * 1)) _ _ _ _
      refine r9.st st9.sep rfl (by simp) rfl fun σ10 st10 r10 => ?_
      show stN ((⟨y, 0, none⟩ : Addr).add (1 * 1)) _ _ _ _
      refine r10.st st10.sep rfl (by simp) rfl fun σ11 st11 r11 => ?_
      have hs11 := st11.sep
      have rd11 := (rd9.keep st10 (by decide) (by decide)).keep st11 (by decide) (by decide)
      have st47 : StepS [0, 7, 8, 31] ro tag1 σ1 tag6 σ11 := (st2.s (by decide)).trans (((st3 []).s (by simp)).trans (((st4 []).s (by simp)).trans ((st5.s (by decide)).trans (((st6 []).s (by simp)).trans ((st7.s (by decide)).trans ((st8.s (by decide)).trans ((st9.s (by decide)).trans ((st10.s (by decide)).trans (st11.s (by decide))))))))))
      have stR : Step [0, 8, 31] ro tag1 σ1 tag6 σ11 := (st2.mono (by decide)).trans ((st3 _).trans ((st4 _).trans ((st5.mono (by decide)).trans ((st6 _).trans ((st7.mono (by decide)).trans ((st8.mono (by decide)).trans ((st9.mono (by decide)).trans ((st10.mono (by decide)).trans (st11.mono (by decide))))))))))
      have rx := r1.keep stR (by decide)
      obtain ⟨tY, hY⟩ := r11.tagOf
      refine lent_block y ?_
      have hsL : SL.Sep (join ro (SL.one σ11 y)) (SL.del σ11 y) := hs11.lent
      have cY : ∀ τ i v, [Value.int .i64 (d.length : Nat), .int .i64 (crc d : Nat), .int .i64 (k : Nat)][i]? = some v → acell (join ro (SL.one σ11 y)) τ ((⟨y, 0, none⟩ : Addr).add i) = some v := fun τ i v hv => by
        have := r11.lend hs11 (τ := τ) (i := i) (v := v) hv
        rwa [Nat.mul_one] at this
      refine ⟨(d.length : Nat), (crc d : Nat), (k : Nat), cellsAt_of 0 fun i v hv => by rw [Nat.zero_add]; exact cY _ i v hv, ?_⟩
      refine rerr_ok (rd11.del tY (by decide) (by decide)) hsL ?_
      rw [if_pos rfl]
      refine left_ok (rd11.del tY (by decide) (by decide)) hsL ?_
      refine (rx.del tY (by decide)).stAll hsL rfl (by simp [storable]) fun σ12 st12 r12 => ?_
      intro hdis
      have stB := st12.back hs11 hdis hY
      have r13 := r12.back (r' := tag6 y) hdis hY
      unfold j14_snap_readManifest
      obtain ⟨p, hp, hg⟩ := r13.ptr stB.sep (by simp)
      cases hp
      refine ⟨_, _, _, cellsAt_of 0 fun j v hj => by have := hg j v hj; rwa [Nat.mul_one, ← Nat.zero_add j] at this, ?_⟩
      exact hyes b k d n hb hk hd _ _ (((st1 []).s (by simp)).trans (st47.trans (stB.s (by decide))))
end Go.Proofs.YtfobjidchipdaaaGreatDoor.Sn

/- Snapshots, the walk: Load; which files are data; what was begun is cleared. -/
namespace Go.Proofs.YtfobjidchipdaaaGreatDoor.Sn
open Go Go.Proofs.YtfobjidchipdaaaGreatDoor.SL Go.Proofs.YtfobjidchipdaaaGreatDoor.G Go.Proofs.YtfobjidchipdaaaGreatDoor.Pa Go.Proofs.YtfobjidchipdaaaGreatDoor.Wi Go.Proofs.YtfobjidchipdaaaGreatDoor.Dk
set_option linter.unusedSimpArgs false
set_option linter.unusedVariables false
set_option maxRecDepth 100000
variable {B : World} {ro σ σ' : AH} {tag tag' : Nat → Nat}
theorem dname_dfile {k : Nat} (h : k < 10) : dName (dfile k) = true := by
  have : ∀ k, k < 10 → dName (dfile k) = true := by decide
  exact this k h
/-- what there is to be loaded -/
structure SnapFs (k : Nat) (d : Str) (fs : Fs) : Prop where
  k10 : k < 10
  dlen : d.length ≤ 1048576
  mn : fs.lookup manN = some ⟨man k d, (man k d).length⟩
  data : fs.lookup (dfile k) = some ⟨d, d.length⟩
  keys : ∀ p ∈ fs, p.1 = manN ∨ p.1 = dfile k
  len : fs.length ≤ 2
def StFs (o : Option (Nat × Str)) (fs : Fs) : Prop := match o with
  | none => fs = []
  | some (k, d) => SnapFs k d fs
theorem SnapFs.lookups {k : Nat} {d : Str} {ps : Ps} (h : SnapFs k d (pfs ps)) : (∃ b, ps.lookup manN = some (b, ⟨man k d, (man k d).length⟩)) ∧ ∃ b, ps.lookup (dfile k) = some (b, ⟨d, d.length⟩) := by
  have h1 := h.mn
  have h2 := h.data
  rw [pfs_lookup] at h1 h2
  obtain ⟨⟨b, f⟩, e1, e2⟩ := Option.map_eq_some_iff.1 h1
  obtain ⟨⟨c, f'⟩, e3, e4⟩ := Option.map_eq_some_iff.1 h2
  simp only at e2 e4
  subst e2 e4
  exact ⟨⟨b, e1⟩, ⟨c, e3⟩⟩
theorem man35 {k : Nat} {d : Str} (hk : k < 10) (hd : d.length ≤ 1048576) : (man k d).length ≤ 35 := by
  have := man_len (k := k) (d := d) (by omega) (by omega)
  unfold man; rw [frame_len]; omega
theorem SnapFs.blen {k : Nat} {d : Str} {ps : Ps} (h : SnapFs k d (pfs ps)) (hn : (ps.map (·.1)).Nodup) : ∀ p ∈ ps, p.2.2.b.length ≤ 1048576 := by
  intro p hp
  have hl := lookup_mem hn (k := p.1) (x := p.2) hp
  obtain ⟨⟨b, e1⟩, c, e2⟩ := h.lookups
  have hk : (p.1, p.2.2) ∈ pfs ps := List.mem_map.2 ⟨p, hp, rfl⟩
  rcases h.keys _ hk with e | e
  · simp only at e; rw [e] at hl; rw [hl] at e1; rw [Option.some.inj e1]
    have := man35 h.k10 h.dlen; simp only; omega
  · simp only at e; rw [e] at hl; rw [hl] at e2; rw [Option.some.inj e2]; exact h.dlen
theorem StFs.blen {o : Option (Nat × Str)} {ps : Ps} (h : StFs o (pfs ps)) (hn : (ps.map (·.1)).Nodup) : ∀ p ∈ ps, p.2.2.b.length ≤ 1048576 := by
  cases o with
  | none =>
    intro p hp
    have : (p.1, p.2.2) ∈ pfs ps := List.mem_map.2 ⟨p, hp, rfl⟩
    rw [show pfs ps = [] from h] at this; cases this
  | some o => exact SnapFs.blen h hn
theorem load_ok {r T M : Nat} {cap : Int} {ps : Ps} {o : Option (Nat × Str)} {Q : Int → Sl → Bool → Int → AH → Prop} (g : Glob ro) (h : Disk tag σ r T M cap ps) (hr : r < 64) (hr0 : r ∉ [0, 6, 7, 8, 9, 31]) (hS : StFs o (pfs ps))
    (hno : o = none → ∀ tag' σ', StepS [0, 7, 8, 9, 31] ro tag σ tag' σ' → Q 0 ⟨none, 0, 0⟩ false 0 σ')
    (hyes : ∀ k d, o = some (k, d) → ∀ s' tag' σ', StepS [0, 7, 8, 9, 31] ro tag σ tag' σ' → Row tag' σ' 6 5 s' (d.map vU) → Q (k : Nat) s' true 0 σ') : c_snap_Load B ro (some ⟨T, 0, none⟩) (S [115]) σ Q := by
  refine snap_Load_ok fun hs => ?_
  unfold f_snap_Load
  simp only [List.mem_cons, List.not_mem_nil, or_false, not_or] at hr0
  refine rightS_ok ?_
  rw [if_neg (by simp)]
  have hbl := hS.blen h.keys
  have hmod : r % 64 = r := Nat.mod_eq_of_lt hr
  refine readManifest_ok h hr hr0.1 (fun p hp => by have := hbl p hp; omega) ?_ ?_ ?_
  · intro hm tag1 σ1 st1
    refine nw_cells (tag := tag1) 9 st1.sep fun x tag2 σ2 st2 r2 => ?_
    refine r2.stAll (st2 []).sep rfl (by simp [storable]) fun σ3 st3 r3 => ?_
    rw [if_pos (by simp)]
    refine hno ?_ tag2 σ3 ((st1.mono (by decide)).trans (((st2 []).s (by simp)).trans (st3.s (by decide))))
    cases o with
    | none => rfl
    | some x => obtain ⟨⟨b, e⟩, _⟩ := SnapFs.lookups (show SnapFs x.1 x.2 (pfs ps) from hS); rw [e] at hm; cases hm
  · intro b k d n hlk hk hd tag1 σ1 st1
    cases o with
    | none =>
      have : pfs ps = [] := hS
      have hnil : ps = [] := by cases ps with
        | nil => rfl
        | cons p ps => cases this
      rw [hnil] at hlk; cases hlk
    | some x =>
      obtain ⟨k', d'⟩ := x
      have hF : SnapFs k' d' (pfs ps) := hS
      obtain ⟨⟨b1, e1⟩, b2, e2⟩ := hF.lookups
      rw [hlk] at e1
      have ek : (k : Int) = (k' : Int) ∧ (d.length : Int) = d'.length ∧ (crc d : Int) = crc d' := by
        have hm : man k d = man k' d' := by have := Option.some.inj e1; simp at this; exact this.2.1
        have u1 := congrArg unframe hm
        rw [unframe_man hk hd, unframe_man (by have := hF.k10; omega) (by have := hF.dlen; omega)] at u1
        have u2 := congrArg Prod.fst u1
        simp only at u2
        have c1 := crc_lt d
        have c2 := crc_lt d'
        have hF1 := hF.k10
        have hF2 := hF.dlen
        have e1 : ∀ a b c : Nat, nums [(a : Int), (b : Int), (c : Int)] = vput a ++ (vput b ++ (vput c ++ [])) := fun a b c => by unfold nums; simp
        rw [e1, e1] at u2
        have v1 : rnum ⟨_, 0⟩ = rnum ⟨_, 0⟩ := congrArg (fun l => rnum ⟨l, 0⟩) u2
        rw [rnum_put hk, rnum_put (by omega)] at v1
        have w1 := (Prod.mk.inj v1).1
        have w2 := (Rd.mk.inj (Prod.mk.inj v1).2).1
        have v2 : rnum ⟨_, 0⟩ = rnum ⟨_, 0⟩ := congrArg (fun l => rnum ⟨l, 0⟩) w2
        rw [rnum_put hd, rnum_put (by omega)] at v2
        have w3 := (Prod.mk.inj v2).1
        have w4 := (Rd.mk.inj (Prod.mk.inj v2).2).1
        have v3 : rnum ⟨_, 0⟩ = rnum ⟨_, 0⟩ := congrArg (fun l => rnum ⟨l, 0⟩) w4
        rw [rnum_put (by omega), rnum_put (by omega)] at v3
        have w5 := (Prod.mk.inj v3).1
        omega
      rw [ek.1, ek.2.1, ek.2.2]
      have h1 : Disk tag1 σ1 r T M cap ps := by
        obtain ⟨R, hR, st⟩ := st1
        exact h.keep st fun x hx => by have := hR x hx; simp at this; omega
      refine nw_cells (tag := tag1) 9 st1.sep fun x tag2 σ2 st2 r2 => ?_
      refine r2.stAll (st2 []).sep rfl (by simp [storable]) fun σ3 st3 r3 => ?_
      rw [if_neg (by simp)]
      obtain ⟨p, hp, hg⟩ := r3.ptr st3.sep (by simp)
      cases hp
      refine ⟨_, hg 2 _ rfl, ?_⟩
      refine dataFile_ok g hF.k10 ?_
      have h3 := (h1.keep (st2 []) (by simp)).keep st3 (by simp; omega)
      refine read_ok (n := dfile k') h3 hr hr0.1 st3.sep (fun p hp => by have := hbl p hp; omega) ?_ ?_
      · rintro e tag4 σ4 he st4
        exfalso
        rcases he with ⟨h1, _⟩ | ⟨_, h2, _⟩
        · rw [dname_dfile hF.k10] at h1; cases h1
        · rw [e2] at h2; cases h2
      · intro _ b f hb s4 tag4 σ4 st4 r4
        rw [e2] at hb
        obtain ⟨rfl, rfl⟩ : b2 = b ∧ ⟨d', d'.length⟩ = f := by simpa using hb
        have r4 : Row tag4 σ4 6 5 s4 (d'.map vU) := r4
        have rx := r3.keep st4 (by decide)
        have hs4 := st4.sep
        obtain ⟨tX, hX⟩ := rx.tagOf
        refine lent_block x ?_
        have hsL : SL.Sep (join ro (SL.one σ4 x)) (SL.del σ4 x) := hs4.lent
        have cX : ∀ τ i v, [Value.int .i64 (d'.length : Nat), .int .i64 (crc d' : Nat), .int .i64 (k' : Nat)][i]? = some v → acell (join ro (SL.one σ4 x)) τ ((⟨x, 0, none⟩ : Addr).add i) = some v := fun τ i v hv => by
          have := rx.lend hs4 (τ := τ) (i := i) (v := v) hv
          rwa [Nat.mul_one] at this
        rw [if_neg (by simp)]
        refine ⟨(d'.length : Nat), (crc d' : Nat), cellsAt_of 0 fun i v hv => ?_, ?_⟩
        · rw [Nat.zero_add]
          refine cX _ i v ?_
          match i, hv with
          | 0, hv => exact hv
          | 1, hv => exact hv
        · have hd' := hF.dlen
          refine digestOf_ok (tag := tag4) (l := d') (fun tag' σ' st => ((r4.del tX (by decide)).keep st (by simp)).read st.sep) (by omega) fun tag5 σ5 st5 => ?_
          refine ne87 ⟨_, rfl, ?_⟩
          intro hdis
          have stB := st5.back hs4 hdis hX
          have r6 := rx.keep stB (by decide)
          unfold j9_snap_Load
          rw [if_neg (by simp)]
          obtain ⟨p, hp, hg⟩ := r6.ptr stB.sep (by simp)
          cases hp
          refine ⟨_, hg 2 _ rfl, ?_⟩
          exact hyes k' d' rfl s4 _ _ ((st1.mono (by decide)).trans (((st2 []).s (by simp)).trans ((st3.s (by decide)).trans ((st4.s (by decide)).trans (stB.s (by decide)))))) (r4.keep stB (by decide))
  · cases o with
    | none =>
      have : pfs ps = [] := hS
      have hnil : ps = [] := by cases ps with
        | nil => rfl
        | cons p ps => cases this
      rw [hnil]; exact .inl rfl
    | some x =>
      have hF : SnapFs x.1 x.2 (pfs ps) := hS
      obtain ⟨⟨b1, e1⟩, b2, e2⟩ := hF.lookups
      exact .inr ⟨b1, x.1, x.2, _, e1, by have := hF.k10; omega, by have := hF.dlen; omega⟩
theorem isData_yes {k : Nat} {Q : Bool → AH → Prop} (g : Glob ro) (hk : k < 10) (hQ : Q true σ) : c_snap_isData B ro (S [115]) (S (dfile k)) σ Q := by
  refine snap_isData_ok fun _ => ?_
  unfold f_snap_isData
  refine ⟨by decide, ?_⟩
  rw [show (⟨#[46, 115]⟩ : ByteArray) = S [46, 115] from rfl, S_append]
  refine Zt.cutPrefix_ok ?_
  have e : Zt.cutPre (dfile k) ([115] ++ [46, 115]) = ([UInt8.ofNat (48 + k)], true) := by
    unfold Zt.cutPre
    rw [if_pos (by rfl)]; rfl
  rw [e]
  rw [if_neg (by simp)]
  have ha : ∀ k, k < 10 → Lib.atoi [UInt8.ofNat (48 + k)] = some (k : Int) := by decide
  refine atoi_ok (by simp) (ha k hk) ?_
  refine nil_eq ⟨true, rfl, ?_⟩
  rw [if_pos ⟨⟨rfl, by omega⟩, by omega⟩]
  refine itoa_ok g (by omega) ?_
  unfold j6_snap_isData
  rw [dec1 hk]
  rw [decide_eq_true rfl]
  exact hQ
theorem isData_man {Q : Bool → AH → Prop} (hQ : Q false σ) : c_snap_isData B ro (S [115]) (S manN) σ Q := by
  refine snap_isData_ok fun _ => ?_
  unfold f_snap_isData
  refine ⟨by decide, ?_⟩
  rw [show (⟨#[46, 115]⟩ : ByteArray) = S [46, 115] from rfl, S_append]
  refine Zt.cutPrefix_ok ?_
  rw [show Zt.cutPre manN ([115] ++ [46, 115]) = (manN, false) from by decide]
  rw [if_pos (by simp)]
  exact hQ
theorem clear_ok {r T M x13 x14 x4 : Nat} {cap : Int} {ps : Ps} {a c : Str} {Q : AH → Prop} (h : Disk tag σ r T M cap ps) (hr : r < 64) (hr0 : r ∉ [0, 3, 40, 41, 42, 43]) (ha : dName a = true) (hc : dName c = true)
    (h1 : Row tag σ 40 9 ⟨some ⟨x13, 0, none⟩, 1, 1⟩ [Pa.vS a]) (h2 : Row tag σ 41 9 ⟨some ⟨x14, 0, none⟩, 1, 1⟩ [Pa.vS c]) (h3 : Row tag σ 42 26 ⟨some ⟨x4, 0, none⟩, 1, 1⟩ [.pointer (some ⟨T, 0, none⟩)])
    (hQ : ∀ tag' σ', StepS [0, r] ro tag σ tag' σ' → Disk tag' σ' r T M cap (adel (adel ps a) c) → Q σ') : c_snap_Save_c1 B ro ⟨x13, 0, none⟩ ⟨x14, 0, none⟩ ⟨x4, 0, none⟩ σ Q := by
  refine snap_Save_c1_ok fun hs => ?_
  unfold f_snap_Save_c1
  simp only [List.mem_cons, List.not_mem_nil, or_false, not_or] at hr0
  refine ⟨S a, Row.cell1 h1 hs, S c, Row.cell1 h2 hs, ?_⟩
  refine nw_cells (tag := tag) 43 hs fun x tag1 σ1 st1 r1 => ?_
  obtain ⟨p, hp, hg⟩ := r1.ptr (st1 []).sep (by simp)
  cases hp
  refine lfpD.intro ?_
  unfold l4_snap_Save_c1
  rw [if_pos (by simp)]
  refine ⟨_, rfl, by omega, by simp, S a, hg 0 _ rfl, _, Row.cell1 (h3.keep (st1 []) (by simp)) (st1 []).sep, ?_⟩
  refine nw_cells (tag := tag1) 3 (st1 []).sep fun y tag2 σ2 st2 r2 => ?_
  refine remove_ok (q := 3) (n := a) ((h.keep (st1 []) (by simp)).keep (st2 []) (by simp)) hr hr0.1 r2 (by decide) ha fun e tag3 σ3 st3 hd3 => ?_
  have sA : StepS [0, r] ro tag1 σ1 tag3 σ3 := ((st2 []).s (by simp)).trans st3
  have r3 := r1.keepS sA (by simp; omega)
  obtain ⟨p, hp, hg⟩ := r3.ptr st3.sep (by simp)
  cases hp
  refine lfpD.intro ?_
  rw [show IntKind.i64.wrap (0 + 1) = 1 from by decide, if_pos (by simp)]
  refine ⟨_, rfl, by omega, by simp, S c, hg 1 _ rfl, _, Row.cell1 ((h3.keep (st1 []) (by simp)).keepS sA (by simp; omega)) st3.sep, ?_⟩
  refine nw_cells (tag := tag3) 3 st3.sep fun z tag4 σ4 st4 r4 => ?_
  refine remove_ok (q := 3) (n := c) (hd3.keep (st4 []) (by simp)) hr hr0.1 r4 (by decide) hc fun e tag5 σ5 st5 hd5 => ?_
  refine lfpD.intro ?_
  rw [show IntKind.i64.wrap (1 + 1) = 2 from by decide, if_neg (by simp)]
  exact hQ tag5 σ5 (((st1 []).s (by simp)).trans (sA.trans (((st4 []).s (by simp)).trans st5))) hd5
end Go.Proofs.YtfobjidchipdaaaGreatDoor.Sn

/- Snapshots: files put, made safe, renamed, cleared: what is there behind it (pure). -/
namespace Go.Proofs.YtfobjidchipdaaaGreatDoor.Sn
open Go Go.Proofs.YtfobjidchipdaaaGreatDoor.SL Go.Proofs.YtfobjidchipdaaaGreatDoor.G Go.Proofs.YtfobjidchipdaaaGreatDoor.Pa Go.Proofs.YtfobjidchipdaaaGreatDoor.Wi Go.Proofs.YtfobjidchipdaaaGreatDoor.Dk
set_option linter.unusedSimpArgs false
set_option linter.unusedVariables false
theorem sub_len {α : Type} [DecidableEq α] : ∀ {l L : List α}, l.Nodup → (∀ x ∈ l, x ∈ L) → l.length ≤ L.length := by
  intro l
  induction l with
  | nil => intro L _ _; simp
  | cons x l ih =>
    intro L hn hs
    rw [List.nodup_cons] at hn
    have hx := hs x (by simp)
    have := ih (L := L.erase x) hn.2 fun y hy => (List.mem_erase_of_ne (fun e => hn.1 (by rw [← e]; exact hy))).2 (hs y (by simp [hy]))
    rw [List.length_erase_of_mem hx] at this
    have := List.length_pos_of_mem hx
    simp; omega
theorem adel_app {β : Type} {ps : List (Str × β)} {k : Str} {v : β} (h : ps.lookup k = none) : adel (ps ++ [(k, v)]) k = ps := by
  induction ps with
  | nil => simp [adel]
  | cons p ps ih =>
    obtain ⟨k', v'⟩ := p
    rw [List.lookup_cons] at h
    by_cases e : k = k'
    · subst e; simp at h
    · rw [show (k == k') = false by simpa using e] at h
      rw [List.cons_append]
      unfold adel
      rw [if_neg e, ih h]
theorem fapp_new {fs : Fs} {n d : Str} (h : fs.lookup n = none) : fapp fs n d = fs ++ [(n, ⟨d, 0⟩)] := by
  unfold fapp; rw [h]; exact aput_new h
theorem look_app {β : Type} {ps : List (Str × β)} {k : Str} {v : β} (h : ps.lookup k = none) (n : Str) : (ps ++ [(k, v)]).lookup n = if n = k then some v else ps.lookup n := by
  rw [← aput_new h, lookup_aput]
theorem name_ne {k : Nat} (h : k < 10) : dfile k ≠ manN ∧ dfile k ≠ tmpN := by
  have : ∀ k, k < 10 → dfile k ≠ manN ∧ dfile k ≠ tmpN := by decide
  exact this k h
theorem dfile_inj {k k' : Nat} (h : k < 10) (h' : k' < 10) (e : dfile k = dfile k') : k = k' := by
  have : ∀ k, k < 10 → ∀ k', k' < 10 → dfile k = dfile k' → k = k' := by decide
  exact this k h k' h' e
theorem man_ne_tmp : manN ≠ tmpN := by decide
/-- what a state lets a new snapshot find -/
theorem StFs.fresh {o : Option (Nat × Str)} {fs : Fs} {k : Nat} (h : StFs o fs) (hk : k < 10) (ho : ∀ k0 d0, o = some (k0, d0) → k0 < k) : fs.lookup (dfile k) = none ∧ fs.lookup tmpN = none := by
  cases o with
  | none => rw [show fs = [] from h]; exact ⟨rfl, rfl⟩
  | some x =>
    obtain ⟨k0, d0⟩ := x
    have hF : SnapFs k0 d0 fs := h
    have hlt := ho k0 d0 rfl
    constructor
    · refine lookup_key.2 fun hm => ?_
      obtain ⟨p, hp, e⟩ := List.mem_map.1 hm
      rcases hF.keys p hp with h | h
      · rw [h] at e; exact (name_ne hk).1 e.symm
      · rw [h] at e; have := dfile_inj hF.k10 hk e; omega
    · refine lookup_key.2 fun hm => ?_
      obtain ⟨p, hp, e⟩ := List.mem_map.1 hm
      rcases hF.keys p hp with h | h
      · rw [h] at e; exact man_ne_tmp e
      · rw [h] at e; exact (name_ne hF.k10).2 e
theorem used_app (fs : Fs) (n : Str) (f : Fl) : used (fs ++ [(n, f)]) = used fs + f.b.length := by
  unfold used; rw [List.map_append, List.sum_append]; simp
theorem used_len {fs : Fs} {N : Nat} (h : ∀ p ∈ fs, p.2.b.length ≤ N) : used fs ≤ fs.length * N := by
  induction fs with
  | nil => simp [used]
  | cons p fs ih =>
    have h1 := h p (by simp)
    have h2 := ih fun q hq => h q (by simp [hq])
    unfold used at *
    rw [List.map_cons, List.sum_cons, List.length_cons, Nat.add_mul]; omega
theorem StFs.used {o : Option (Nat × Str)} {ps : Ps} (h : StFs o (pfs ps)) (hn : (ps.map (·.1)).Nodup) : used (pfs ps) ≤ 2097152 ∧ ps.length ≤ 2 := by
  have hb := h.blen hn
  have hl : ps.length ≤ 2 := by
    cases o with
    | none => have : (pfs ps).length = 0 := by rw [show pfs ps = [] from h]; rfl
              unfold pfs at this; simp at this; simp [this]
    | some x => have := SnapFs.len (show SnapFs x.1 x.2 (pfs ps) from h); unfold pfs at this; simpa using this
  have := used_len (fs := pfs ps) (N := 1048576) fun p hp => by
    obtain ⟨q, hq, rfl⟩ := List.mem_map.1 hp
    exact hb q hq
  have h3 : (pfs ps).length = ps.length := by unfold pfs; simp
  rw [h3] at this
  have : ps.length * 1048576 ≤ 2 * 1048576 := Nat.mul_le_mul_right _ hl
  exact ⟨by omega, hl⟩
/-- behind the renaming: the manifest, the data, and nothing but files of snapshots -/
structure Mid (k : Nat) (d : Str) (o : Option (Nat × Str)) (fs : Fs) : Prop where
  mn : fs.lookup manN = some ⟨man k d, (man k d).length⟩
  data : fs.lookup (dfile k) = some ⟨d, d.length⟩
  keys : ∀ p ∈ fs, p.1 = manN ∨ p.1 = dfile k ∨ ∃ k0 d0, o = some (k0, d0) ∧ p.1 = dfile k0
theorem mid_of {o : Option (Nat × Str)} {fs fs2 fs3 : Fs} {k : Nat} {d : Str} (h : StFs o fs) (hn : (fs.map (·.1)).Nodup) (hk : k < 10) (ho : ∀ k0 d0, o = some (k0, d0) → k0 < k) (h2 : fs2 = fs ++ [(dfile k, ⟨d, 0⟩)] ++ [(tmpN, ⟨man k d, 0⟩)]) (h3 : fs3 = fsync fs2 [dfile k, tmpN]) :
    fs3.lookup tmpN = some ⟨man k d, (man k d).length⟩ ∧ Mid k d o (aput (adel fs3 tmpN) manN ⟨man k d, (man k d).length⟩) := by
  obtain ⟨f1, f2⟩ := h.fresh hk ho
  have hne := name_ne hk
  have g1 : (fs ++ [(dfile k, (⟨d, 0⟩ : Fl))]).lookup tmpN = none := by rw [look_app f1, if_neg (fun e => hne.2 e.symm)]; exact f2
  have l2 : ∀ n, fs2.lookup n = if n = tmpN then some ⟨man k d, 0⟩ else if n = dfile k then some ⟨d, 0⟩ else fs.lookup n := fun n => by rw [h2, look_app g1, look_app f1]
  have l3 : ∀ n, fs3.lookup n = if n = tmpN then some ⟨man k d, (man k d).length⟩ else if n = dfile k then some ⟨d, d.length⟩ else fs.lookup n := fun n => by
    have e1 : sync1 fs2 (dfile k) = aput fs2 (dfile k) ⟨d, d.length⟩ := by
      unfold sync1; rw [l2, if_neg hne.2, if_pos rfl]
    have e2 : sync1 (aput fs2 (dfile k) ⟨d, d.length⟩) tmpN = aput (aput fs2 (dfile k) ⟨d, d.length⟩) tmpN ⟨man k d, (man k d).length⟩ := by
      unfold sync1; rw [lookup_aput, if_neg (fun e => hne.2 e.symm), l2, if_pos rfl]
    rw [h3, show fsync fs2 [dfile k, tmpN] = sync1 (sync1 fs2 (dfile k)) tmpN from rfl, e1, e2, lookup_aput, lookup_aput, l2]
    by_cases a : n = tmpN
    · simp [a]
    · simp only [if_neg a]
      by_cases b : n = dfile k
      · simp only [if_pos b]
      · simp only [if_neg b]
  have k3 : fs3.map (·.1) = fs.map (·.1) ++ [dfile k, tmpN] := by
    have e1 : sync1 fs2 (dfile k) = aput fs2 (dfile k) ⟨d, d.length⟩ := by
      unfold sync1; rw [l2, if_neg hne.2, if_pos rfl]
    have e2 : sync1 (aput fs2 (dfile k) ⟨d, d.length⟩) tmpN = aput (aput fs2 (dfile k) ⟨d, d.length⟩) tmpN ⟨man k d, (man k d).length⟩ := by
      unfold sync1; rw [lookup_aput, if_neg (fun e => hne.2 e.symm), l2, if_pos rfl]
    rw [h3, show fsync fs2 [dfile k, tmpN] = sync1 (sync1 fs2 (dfile k)) tmpN from rfl, e1, e2]
    rw [aput_keys (x := ⟨man k d, 0⟩) (by rw [lookup_aput, if_neg (fun e => hne.2 e.symm), l2, if_pos rfl]), aput_keys (x := ⟨d, 0⟩) (by rw [l2, if_neg hne.2, if_pos rfl]), h2]
    simp
  have n3 : (fs3.map (·.1)).Nodup := by
    rw [k3, List.nodup_append]
    refine ⟨hn, by simp; exact hne.2, fun x hx y hy e => ?_⟩
    simp at hy
    rcases hy with rfl | rfl
    · exact lookup_key.1 f1 (by rw [← e]; exact hx)
    · exact lookup_key.1 f2 (by rw [← e]; exact hx)
  refine ⟨by rw [l3, if_pos rfl], ?_, ?_, fun p hp => ?_⟩
  · rw [lookup_aput, if_pos rfl]
  · rw [lookup_aput, if_neg hne.1, lookup_adel n3, if_neg hne.2, l3, if_neg hne.2, if_pos rfl]
  · rcases mem_aput (adel_nodup n3) hp with rfl | ⟨hp, _⟩
    · exact .inl rfl
    · obtain ⟨hp, hnt⟩ := mem_adel n3 hp
      have hm : p.1 ∈ fs3.map (·.1) := List.mem_map.2 ⟨p, hp, rfl⟩
      rw [k3] at hm
      rcases List.mem_append.1 hm with hm | hm
      · obtain ⟨q, hq, e⟩ := List.mem_map.1 hm
        cases o with
        | none => rw [show fs = [] from h] at hq; cases hq
        | some x =>
          obtain ⟨k0, d0⟩ := x
          rcases SnapFs.keys (show SnapFs k0 d0 fs from h) q hq with h | h
          · exact .inl (by rw [← e, h])
          · exact .inr (.inr ⟨k0, d0, rfl, by rw [← e, h]⟩)
      · simp at hm
        rcases hm with hm | hm
        · exact .inr (.inl hm)
        · exact absurd hm hnt
end Go.Proofs.YtfobjidchipdaaaGreatDoor.Sn

/- SnapBack: what has come (pure). -/
namespace Go.Proofs.YtfobjidchipdaaaGreatDoor.Sn
open Go Go.Proofs.YtfobjidchipdaaaGreatDoor.SL Go.Proofs.YtfobjidchipdaaaGreatDoor.G Go.Proofs.YtfobjidchipdaaaGreatDoor.Pa Go.Proofs.YtfobjidchipdaaaGreatDoor.Wi
set_option linter.unusedSimpArgs false
set_option linter.unusedVariables false
set_option maxRecDepth 100000
/-- what the snapshot's chunks make, those of the places K -/
structure Come (k : Nat) (d : Str) (sz : Nat) (K : Nat → Bool) (a : As) : Prop where
  look : ∀ i, i < cnt d.length sz → a.parts.lookup (i : Int) = if K i = true then some (partOf d sz i) else none
  keys : ∀ p ∈ a.parts, ∃ i, i < cnt d.length sz ∧ p.1 = (i : Int) ∧ K i = true
  nd : (a.parts.map (·.1)).Nodup
  set : (∃ i, i < cnt d.length sz ∧ K i = true) → a.length = d.length ∧ a.sum = crc d ∧ a.number = k ∧ a.count = cnt d.length sz
  new : (∀ i, i < cnt d.length sz → K i = false) → a.count = 0 ∧ a.parts = []
theorem Come.begin (k : Nat) (d : Str) (sz : Nat) : Come k d sz (fun _ => false) As.new :=
  ⟨fun i _ => rfl, (fun p h => by cases h), List.nodup_nil, (fun ⟨i, _, h⟩ => by cases h), fun _ => ⟨rfl, rfl⟩⟩
variable {k sz : Nat} {d : Str} {K : Nat → Bool} {a : As}
theorem Come.ok (h : Come k d sz K a) (hd : d.length ≤ 1048576) (hc : cnt d.length sz ≤ 1048576) : AsOk a := by
  refine ⟨?_, fun p hp => ?_⟩
  · by_cases c : ∃ i, i < cnt d.length sz ∧ K i = true
    · rw [(h.set c).2.2.2]; exact hc
    · rw [(h.new fun i hi => by simpa using fun hk => c ⟨i, hi, hk⟩).1]; omega
  · obtain ⟨i, hi, e, hk⟩ := h.keys p hp
    have h1 := h.look i hi
    rw [if_pos hk, ← e] at h1
    have hm := qlook_mem h1
    have : (p.1, p.2) ∈ a.parts := hp
    have e2 : p.2 = partOf d sz i := by
      have h3 : ∀ (l : List (Int × Str)), (l.map (·.1)).Nodup → ∀ (k : Int) (v w : Str), (k, v) ∈ l → (k, w) ∈ l → v = w := by
        intro l
        induction l with
        | nil => intro _ k v w h; cases h
        | cons q l ih =>
          intro hn k v w h1 h2
          rw [List.map_cons, List.nodup_cons] at hn
          rcases List.mem_cons.1 h1 with h1 | h1
          · rcases List.mem_cons.1 h2 with h2 | h2
            · rw [← h1] at h2; exact (Prod.mk.inj h2).2.symm
            · exact absurd (List.mem_map.2 ⟨_, h2, by rw [← h1]⟩) hn.1
          · rcases List.mem_cons.1 h2 with h2 | h2
            · exact absurd (List.mem_map.2 ⟨_, h1, by rw [← h2]⟩) hn.1
            · exact ih hn.2 k v w h1 h2
      exact h3 _ h.nd _ _ _ this hm
    rw [e2]
    have := partOf_len d sz i
    omega
theorem Come.add {i : Nat} (h : Come k d sz K a) (hk : k < 4611686018427387904) (hd : d.length ≤ 1048576) (h1 : 1 ≤ sz) (h2 : sz ≤ 32768) (hi : i < cnt d.length sz) : (asAdd1 a (encCk (ckAt k d sz i))).2 = 0 ∧ Come k d sz (fun j => if j = i then true else K j) (asAdd1 a (encCk (ckAt k d sz i))).1 := by
  obtain ⟨hr, hf⟩ := ckAt_right (k := k) hk hd h1 h2 hi
  obtain ⟨e1, e2⟩ := read_enc hr
  have hb : a.begin (ckAt k d sz i) = { a with length := d.length, sum := crc d, number := k, count := cnt d.length sz } := by
    unfold As.begin
    split
    · rfl
    · rename_i c
      have hex : ∃ i, i < cnt d.length sz ∧ K i = true := by
        refine Classical.byContradiction fun hn => c ?_
        exact (h.new fun i hi => by simpa using fun hk => hn ⟨i, hi, hk⟩).1
      obtain ⟨s1, s2, s3, s4⟩ := h.set hex
      cases a
      simp only at s1 s2 s3 s4
      subst s1 s2 s3 s4
      rfl
  have hfit : (a.begin (ckAt k d sz i)).fits (ckAt k d sz i) = true := by
    rw [hb]
    unfold As.fits
    have : (a.parts.lookup (((ckAt k d sz i).at' : Nat) : Int)) = if K i = true then some (partOf d sz i) else none := h.look i hi
    simp only [this]
    unfold ckAt
    split <;> simp_all
  have e : asAdd1 a (encCk (ckAt k d sz i)) = ({ (a.begin (ckAt k d sz i)) with parts := qput (a.begin (ckAt k d sz i)).parts ((ckAt k d sz i).at' : Int) (ckAt k d sz i).part }, 0) := by
    unfold asAdd1
    rw [e2, hf, if_pos rfl, e1, hfit, if_pos rfl]
  rw [e, hb]
  refine ⟨rfl, fun j hj => ?_, fun p hp => ?_, ?_, fun _ => ⟨rfl, rfl, rfl, rfl⟩, fun hn => ?_⟩
  · show (qput a.parts (i : Int) (partOf d sz i)).lookup (j : Int) = _
    rw [qput_look]
    by_cases c : j = i
    · subst c; simp
    · rw [if_neg (by omega), if_neg c]; exact h.look j hj
  · rcases qmem_put (show p ∈ qput a.parts (i : Int) (partOf d sz i) from hp) with rfl | hp
    · exact ⟨i, hi, rfl, by simp⟩
    · obtain ⟨j, hj, e, hk⟩ := h.keys p hp
      exact ⟨j, hj, e, by split <;> simp_all⟩
  · show ((qput a.parts (i : Int) (partOf d sz i)).map (·.1)).Nodup
    rcases qput_keys a.parts (i : Int) (partOf d sz i) with ⟨e, _⟩ | ⟨e, hn⟩
    · rw [e]; exact h.nd
    · rw [e, List.nodup_append]
      exact ⟨h.nd, by simp, fun x hx y hy e => hn (by rw [List.mem_singleton.1 hy] at e; rw [← e]; exact hx)⟩
  · have := hn i hi; simp at this
def leftOf (n : Nat) (K : Nat → Bool) : Nat := ((List.range n).filter fun i => !K i).length
theorem leftOf_zero {n : Nat} : leftOf n K = 0 ↔ ∀ i, i < n → K i = true := by
  unfold leftOf
  rw [List.length_eq_zero_iff, List.filter_eq_nil_iff]
  simp
theorem come_parts (h : Come k d sz K a) : a.parts.length = cnt d.length sz ↔ ∀ i, i < cnt d.length sz → K i = true := by
  have hL : ((List.range (cnt d.length sz)).map fun (i : Nat) => (i : Int)).Nodup := by
    rw [List.nodup_iff_pairwise_ne, List.pairwise_map]
    exact List.Pairwise.imp (fun h => by omega) (List.nodup_iff_pairwise_ne.1 List.nodup_range)
  constructor
  · intro he i hi
    refine Classical.byContradiction fun hn => ?_
    have := sub_len (L := ((List.range (cnt d.length sz)).map fun (i : Nat) => (i : Int)).erase (i : Int)) h.nd fun x hx => by
      obtain ⟨p, hp, rfl⟩ := List.mem_map.1 hx
      obtain ⟨j, hj, e, hk⟩ := h.keys p hp
      refine (List.mem_erase_of_ne fun e2 => hn ?_).2 (by rw [e]; exact List.mem_map.2 ⟨j, List.mem_range.2 hj, rfl⟩)
      rw [e] at e2
      have : j = i := by omega
      rw [← this]; exact hk
    rw [List.length_erase_of_mem (List.mem_map.2 ⟨i, List.mem_range.2 hi, rfl⟩), List.length_map, List.length_map, List.length_range] at this
    omega
  · intro hall
    have h1 := sub_len (L := (List.range (cnt d.length sz)).map fun (i : Nat) => (i : Int)) h.nd fun x hx => by
      obtain ⟨p, hp, rfl⟩ := List.mem_map.1 hx
      obtain ⟨j, hj, e, hk⟩ := h.keys p hp
      rw [e]; exact List.mem_map.2 ⟨j, List.mem_range.2 hj, rfl⟩
    have h2 := sub_len (L := a.parts.map (·.1)) hL fun x hx => by
      obtain ⟨i, hi, rfl⟩ := List.mem_map.1 hx
      have hi := List.mem_range.1 hi
      have := h.look i hi
      rw [if_pos (hall i hi)] at this
      exact List.mem_map.2 ⟨_, qlook_mem this, rfl⟩
    rw [List.length_map, List.length_map, List.length_range] at *
    omega
theorem come_le (h : Come k d sz K a) : a.parts.length ≤ cnt d.length sz := by
  have h1 := sub_len (L := (List.range (cnt d.length sz)).map fun (i : Nat) => (i : Int)) h.nd fun x hx => by
    obtain ⟨p, hp, rfl⟩ := List.mem_map.1 hx
    obtain ⟨j, hj, e, hk⟩ := h.keys p hp
    rw [e]; exact List.mem_map.2 ⟨j, List.mem_range.2 hj, rfl⟩
  rw [List.length_map, List.length_map, List.length_range] at h1
  exact h1
theorem fmap_congr {α β : Type} {f g : α → List β} : ∀ {l : List α}, (∀ i ∈ l, f i = g i) → l.flatMap f = l.flatMap g
  | [], _ => rfl
  | a :: l, h => by
    rw [List.flatMap_cons, List.flatMap_cons, h a (List.mem_cons_self), fmap_congr fun i hi => h i (List.mem_cons_of_mem _ hi)]
theorem Come.done (h : Come k d sz K a) (h1 : 1 ≤ sz) : (asDone a).2.2 = decide (leftOf (cnt d.length sz) K = 0) ∧ ((∀ i, i < cnt d.length sz → K i = true) → asData a = d ∧ a.number = k) := by
  have hc := (cnt_mul (n := d.length) h1).2.2
  have hdata : (∀ i, i < cnt d.length sz → K i = true) → asData a = d ∧ a.number = k := fun hall => by
    obtain ⟨s1, s2, s3, s4⟩ := h.set ⟨0, by omega, hall 0 (by omega)⟩
    refine ⟨?_, s3⟩
    unfold asData
    rw [s4]
    conv => rhs; rw [← parts_all (d := d) h1]
    refine fmap_congr fun i hi => ?_
    rw [h.look i (List.mem_range.1 hi), if_pos (hall i (List.mem_range.1 hi))]; rfl
  refine ⟨?_, hdata⟩
  unfold asDone
  by_cases c : ∀ i, i < cnt d.length sz → K i = true
  · rw [decide_eq_true (leftOf_zero.2 c)]
    obtain ⟨s1, s2, s3, s4⟩ := h.set ⟨0, by omega, c 0 (by omega)⟩
    rw [if_neg (by rw [(come_parts h).2 c, s4]; omega), (hdata c).1, s1, s2, if_pos ⟨rfl, rfl⟩]
  · rw [decide_eq_false (fun e => c (leftOf_zero.1 e))]
    rw [if_pos]
    by_cases c2 : ∃ i, i < cnt d.length sz ∧ K i = true
    · right
      rw [(h.set c2).2.2.2]
      have := come_le h
      have : a.parts.length ≠ cnt d.length sz := fun e => c ((come_parts h).1 e)
      omega
    · left
      exact (h.new fun i hi => by simpa using fun hk => c2 ⟨i, hi, hk⟩).1
end Go.Proofs.YtfobjidchipdaaaGreatDoor.Sn

/- Snapshots, the walk: Save. -/
namespace Go.Proofs.YtfobjidchipdaaaGreatDoor.Sn
open Go Go.Proofs.YtfobjidchipdaaaGreatDoor.SL Go.Proofs.YtfobjidchipdaaaGreatDoor.G Go.Proofs.YtfobjidchipdaaaGreatDoor.Pa Go.Proofs.YtfobjidchipdaaaGreatDoor.Wi Go.Proofs.YtfobjidchipdaaaGreatDoor.Dk
set_option linter.unusedSimpArgs false
set_option linter.unusedVariables false
set_option maxRecDepth 100000
variable {B : World} {ro σ σ' : AH} {tag tag' : Nat → Nat}
abbrev SC : List Nat := [0, 1, 2, 7, 8, 9, 10, 31, 40, 41, 42, 43, 45]
theorem DiskAt.keepS {td tf : TypeId} {C : List Nat} {r T M : Nat} {cap : Int} {ps : Ps} (h : DiskAt td tf tag σ r T M cap ps) (k : StepS C ro tag σ tag' σ') (hr : r % 64 ∉ C) : DiskAt td tf tag' σ' r T M cap ps := by
  obtain ⟨R, h1, h2⟩ := k
  exact h.keep h2 fun x hx e => hr (by rw [← e]; exact h1 x hx)
theorem RowC.outR {L : List Nat} {r : Nat} {e : TypeId} {s : Sl} {l : List Value} (h : RowC tag σ r e s l) (hr : r ∉ L) : RowC tag (SL.outR tag L σ) r e s l := by
  obtain ⟨c, h, x⟩ := h; exact ⟨c, h.outR hr, x⟩
/-- the last part: other snapshots' files go -/
theorem sweep_ok {T M x4 x13 : Nat} {cap : Int} {ps : Ps} {o : Option (Nat × Str)} {k : Nat} {d : Str} {Q : Int → AH → Prop} (g : Glob ro) (h : Disk tag σ 10 T M cap ps) (hs : SL.Sep ro σ) (hk : k < 10) (hd : d.length ≤ 1048576) (hM : Mid k d o (pfs ps)) (ho : ∀ k0 d0, o = some (k0, d0) → k0 < k)
    (h4 : Row tag σ 42 26 ⟨some ⟨x4, 0, none⟩, 1, 1⟩ [.pointer (some ⟨T, 0, none⟩)]) (h13 : Row tag σ 40 9 ⟨some ⟨x13, 0, none⟩, 1, 1⟩ [Pa.vS (dfile k)])
    (hQ : ∀ ps' tag' σ', StepS [0, 10] ro tag σ tag' σ' → Disk tag' σ' 10 T M cap ps' → SnapFs k d (pfs ps') → Q 0 σ') :
    c_disk_table_Files B ro (some M) σ fun x σ => lfpD (l24_snap_Save B ro (S [115]) x4 x13 x Q) 0 σ := by
  have hkl : ∀ p ∈ ps, p.1.length ≤ 5 := fun p hp => by
    have hm : (p.1, p.2.2) ∈ pfs ps := List.mem_map.2 ⟨p, hp, rfl⟩
    rcases hM.keys _ hm with e | e | ⟨k0, d0, _, e⟩ <;> simp only at e <;> rw [e] <;> first | decide | exact (by decide : 4 ≤ 5)
  have hkn : ps.length ≤ 4398046511104 := by
    have hL : ∃ L : List Str, L.length ≤ 3 ∧ ∀ x ∈ ps.map (·.1), x ∈ L := by
      refine ⟨manN :: dfile k :: o.toList.map (fun x => dfile x.1), by cases o <;> simp, fun x hx => ?_⟩
      obtain ⟨p, hp, rfl⟩ := List.mem_map.1 hx
      have hm : (p.1, p.2.2) ∈ pfs ps := List.mem_map.2 ⟨p, hp, rfl⟩
      rcases hM.keys _ hm with e | e | ⟨k0, d0, e0, e⟩ <;> simp only at e <;> rw [e]
      · simp
      · simp
      · rw [e0]; simp
    obtain ⟨L, l1, l2⟩ := hL
    have := sub_len h.keys l2
    rw [List.length_map] at this
    omega
  refine files_ok (q := 43) h.map h.keys (fun p hp => by have := hkl p hp; omega) hkn fun ls tag1 σ1 ks st1 hp hso r1 => ?_
  have hln : ls.len = ks.length := by rw [r1.len, List.length_map]
  have hkn' : ks.length ≤ 4398046511104 := by rw [hp.length_eq, List.length_map]; exact hkn
  have hne := name_ne hk
  suffices ∀ (m j : Nat) (ps' : Ps) (tag2 : Nat → Nat) (σ2 : AH), j + m = ks.length → Disk tag2 σ2 10 T M cap ps' → StepS [0, 10] ro tag1 σ1 tag2 σ2 → (pfs ps').lookup manN = some ⟨man k d, (man k d).length⟩ → (pfs ps').lookup (dfile k) = some ⟨d, d.length⟩ →
      (∀ p ∈ ps', p.1 = manN ∨ p.1 = dfile k ∨ p.1 ∈ ks.drop j) → lfpD (l24_snap_Save B ro (S [115]) x4 x13 ls Q) (j : Int) σ2 from
    this _ 0 ps tag1 σ1 (Nat.zero_add _) (h.keep (st1 []) (by simp)) (StepS.refl (st1 []).sep) hM.mn hM.data fun p hp' => .inr (.inr (hp.mem_iff.2 (List.mem_map.2 ⟨p, hp', rfl⟩)))
  intro m
  induction m with
  | zero =>
    intro j ps' tag2 σ2 hj hd2 st2 e1 e2 hkeys
    refine lfpD.intro ?_
    unfold l24_snap_Save
    rw [if_neg (by omega)]
    unfold j19_snap_Save
    refine hQ ps' tag2 σ2 (((st1 []).s (by simp)).trans st2) hd2 ⟨hk, hd, e1, e2, fun p hp' => ?_, ?_⟩
    · obtain ⟨q, hq, rfl⟩ := List.mem_map.1 hp'
      rcases hkeys q hq with e | e | e
      · exact .inl e
      · exact .inr e
      · rw [List.drop_of_length_le (by omega)] at e; cases e
    · have := sub_len (L := [manN, dfile k]) hd2.keys fun x hx => by
        obtain ⟨q, hq, rfl⟩ := List.mem_map.1 hx
        rcases hkeys q hq with e | e | e
        · simp [e]
        · simp [e]
        · rw [List.drop_of_length_le (by omega)] at e; cases e
      rw [List.length_map] at this
      unfold pfs; rw [List.length_map]; exact this
  | succ m ih =>
    intro j ps' tag2 σ2 hj hd2 st2 e1 e2 hkeys
    have hjl : j < ks.length := by omega
    have hs2 := st2.sep
    have edrop : ks.drop j = ks[j] :: ks.drop (j + 1) := List.drop_eq_getElem_cons hjl
    obtain ⟨p, hp', _, hg⟩ := Row.sget (r1.keepS st2 (by decide)) hs2 hjl
    have hgj := hg j hjl
    have hin : ks[j] ∈ ps.map (·.1) := hp.mem_iff.1 (List.getElem_mem hjl)
    generalize ks[j] = n at hgj hin edrop
    have hn : n = manN ∨ n = dfile k ∨ ∃ k0, k0 < k ∧ n = dfile k0 := by
      obtain ⟨q, hq, rfl⟩ := List.mem_map.1 hin
      rcases hM.keys _ (List.mem_map.2 ⟨q, hq, rfl⟩) with e | e | ⟨k0, d0, e0, e⟩
      · exact .inl e
      · exact .inr (.inl e)
      · exact .inr (.inr ⟨k0, ho k0 d0 e0, e⟩)
    have h13' := (h13.keep (st1 []) (by simp)).keepS st2 (by decide)
    have h4' := (h4.keep (st1 []) (by simp)).keepS st2 (by decide)
    refine lfpD.intro ?_
    unfold l24_snap_Save
    rw [if_pos (by omega)]
    refine ⟨p, hp', by omega, by omega, S n, by rw [Int.toNat_natCast]; exact hgj, S (dfile k), Row.cell1 h13' hs2, ?_⟩
    have stay : n = manN ∨ n = dfile k → ∀ tag3 σ3, StepS [0] ro tag2 σ2 tag3 σ3 → j26_snap_Save B ro (S [115]) x4 x13 ls (j : Int) Q (lfpD (l24_snap_Save B ro (S [115]) x4 x13 ls Q)) σ3 := fun hh tag3 σ3 st3 => by
      unfold j26_snap_Save
      rw [Pa.inc j (by omega)]
      refine ih (j + 1) ps' tag3 σ3 (by omega) (DiskAt.keepS hd2 st3 (by decide)) (st2.trans (st3.mono (by decide))) e1 e2 fun q hq => ?_
      rcases hkeys q hq with e | e | e
      · exact .inl e
      · exact .inr (.inl e)
      · rw [edrop] at e
        rcases List.mem_cons.1 e with e | e
        · rcases hh with h | h
          · exact .inl (e.trans h)
          · exact .inr (.inl (e.trans h))
        · exact .inr (.inr e)
    by_cases c : S n = S (dfile k)
    · rw [if_neg (by simpa using c)]
      unfold j30_snap_Save
      rw [if_neg (by simp)]
      exact stay (.inr (S_inj.1 c)) tag2 σ2 (StepS.refl hs2)
    · rw [if_pos c]
      rcases hn with rfl | rfl | ⟨k0, hlt, rfl⟩
      · refine isData_man ?_
        unfold j30_snap_Save
        rw [if_neg (by simp)]
        exact stay (.inl rfl) tag2 σ2 (StepS.refl hs2)
      · exact absurd rfl c
      · refine isData_yes g (by omega) ?_
        unfold j30_snap_Save
        rw [if_pos rfl]
        refine ⟨_, Row.cell1 h4' hs2, ?_⟩
        refine nw_cells (tag := tag2) 3 hs2 fun y tag3 σ3 st3 r3 => ?_
        refine remove_ok (q := 3) (n := dfile k0) (hd2.keep (st3 []) (by simp)) (by decide) (by decide) r3 (by decide) (dname_dfile (by omega)) fun e tag4 σ4 st4 hd4 => ?_
        unfold j26_snap_Save
        rw [Pa.inc j (by omega)]
        have hnk : (pfs ps').map (·.1) = ps'.map (·.1) := pfs_keys ps'
        have hnd : ((pfs ps').map (·.1)).Nodup := by rw [hnk]; exact hd2.keys
        have n1 : manN ≠ dfile k0 := fun e => (name_ne (by omega)).1 e.symm
        have n2 : dfile k ≠ dfile k0 := fun e => by have := dfile_inj hk (by omega) e; omega
        refine ih (j + 1) _ tag4 σ4 (by omega) hd4 (st2.trans (((st3 []).s (by simp)).trans st4)) ?_ ?_ fun q hq => ?_
        · rw [pfs_del, lookup_adel hnd, if_neg n1]; exact e1
        · rw [pfs_del, lookup_adel hnd, if_neg n2]; exact e2
        · obtain ⟨hq, hqn⟩ := mem_adel hd2.keys hq
          rcases hkeys q hq with e | e | e
          · exact .inl e
          · exact .inr (.inl e)
          · rw [edrop] at e
            rcases List.mem_cons.1 e with e | e
            · exact absurd e hqn
            · exact .inr (.inr e)
end Go.Proofs.YtfobjidchipdaaaGreatDoor.Sn

/- Snapshots, the walk: Save, whole. -/
namespace Go.Proofs.YtfobjidchipdaaaGreatDoor.Sn
open Go Go.Proofs.YtfobjidchipdaaaGreatDoor.SL Go.Proofs.YtfobjidchipdaaaGreatDoor.G Go.Proofs.YtfobjidchipdaaaGreatDoor.Pa Go.Proofs.YtfobjidchipdaaaGreatDoor.Wi Go.Proofs.YtfobjidchipdaaaGreatDoor.Dk
set_option linter.unusedSimpArgs false
set_option linter.unusedVariables false
set_option maxRecDepth 100000
variable {B : World} {ro σ σ' : AH} {tag tag' : Nat → Nat}
theorem pfs_none {ps : Ps} {n : Str} (h : (pfs ps).lookup n = none) : ps.lookup n = none := by
  rw [pfs_lookup] at h; exact Option.map_eq_none_iff.1 h
/-- safe, renamed, swept -/
theorem finish_ok {T M x4 x13 x14 : Nat} {cap : Int} {ps3 : Ps} {fs : Fs} {o : Option (Nat × Str)} {k : Nat} {d : Str} {Q : Int → AH → Prop} (g : Glob ro) (h : Disk tag σ 10 T M cap ps3) (hs : SL.Sep ro σ) (hk : k < 10) (hd : d.length ≤ 1048576) (hS : StFs o fs) (hn : (fs.map (·.1)).Nodup) (ho : ∀ k0 d0, o = some (k0, d0) → k0 < k)
    (h3 : pfs ps3 = fs ++ [(dfile k, ⟨d, 0⟩)] ++ [(tmpN, ⟨man k d, 0⟩)])
    (h4 : Row tag σ 42 26 ⟨some ⟨x4, 0, none⟩, 1, 1⟩ [.pointer (some ⟨T, 0, none⟩)]) (h13 : Row tag σ 40 9 ⟨some ⟨x13, 0, none⟩, 1, 1⟩ [Pa.vS (dfile k)]) (h14 : Row tag σ 41 9 ⟨some ⟨x14, 0, none⟩, 1, 1⟩ [Pa.vS tmpN])
    (hQ : ∀ ps' tag' σ', StepS [0, 10] ro tag σ tag' σ' → Disk tag' σ' 10 T M cap ps' → SnapFs k d (pfs ps') → Q 0 σ') : j10_snap_Save B ro (S [115]) x4 x13 x14 Q σ := by
  unfold j10_snap_Save
  have hne := name_ne hk
  obtain ⟨f1, f2⟩ := hS.fresh hk ho
  have g1 : (fs ++ [(dfile k, (⟨d, 0⟩ : Fl))]).lookup tmpN = none := by rw [look_app f1, if_neg (fun e => hne.2 e.symm)]; exact f2
  refine ⟨_, Row.cell1 h4 hs, S (dfile k), Row.cell1 h13 hs, S tmpN, Row.cell1 h14 hs, ?_⟩
  refine nw_cells (tag := tag) 43 hs fun x tag1 σ1 st1 r1 => ?_
  have hl3 : ∀ n ∈ [dfile k, tmpN], ps3.lookup n ≠ none := by
    intro n hn e
    have : (pfs ps3).lookup n = none := by rw [pfs_lookup, e]; rfl
    rw [h3, look_app g1, look_app f1] at this
    simp at hn
    rcases hn with rfl | rfl
    · rw [if_neg hne.2, if_pos rfl] at this; cases this
    · rw [if_pos rfl] at this; cases this
  have hdn : [dfile k, tmpN].all dName = true := by
    simp only [List.all_cons, dname_dfile hk, List.all_nil, Bool.and_true, Bool.true_and]; decide
  refine sync_ok (q := 43) (ns := [dfile k, tmpN]) (h.keep (st1 []) (by simp)) (by decide) (by decide) r1 (by decide) (by simp) ?_ ?_
  · rintro (hb | ⟨n, hn, e⟩)
    · rw [hdn] at hb; cases hb
    · exact absurd e (hl3 n hn)
  · intro _ _ ps4 tag2 σ2 st2 hd4 e4
    have hs2 := st2.sep
    have sA : StepS [0, 10] ro tag σ tag2 σ2 := ((st1 []).s (by simp)).trans st2
    have h4' := h4.keepS sA (by decide)
    have h13' := h13.keepS sA (by decide)
    have h14' := h14.keepS sA (by decide)
    obtain ⟨m1, m2⟩ := mid_of (fs2 := pfs ps3) (fs3 := pfs ps4) hS hn hk ho h3 e4
    refine ⟨_, Row.cell1 h4' hs2, S tmpN, Row.cell1 h14' hs2, by decide, ?_⟩
    rw [show (⟨#[46, 109, 97, 110]⟩ : ByteArray) = S [46, 109, 97, 110] from rfl, S_append]
    refine rename_ok (a := tmpN) (c := manN) hd4 (by decide) (by decide) (by decide) (by decide) ?_ ?_
    · intro e
      rw [pfs_lookup, e] at m1; cases m1
    · intro b f hb σ3 st3 hd5
      have hs3 := st3.sep
      have hf : f = ⟨man k d, (man k d).length⟩ := by rw [pfs_lookup, hb] at m1; exact Option.some.inj m1
      subst hf
      refine ⟨_, Row.cell1 (h4'.keepS st3 (by decide)) hs3, _, rfl, _, (hd5.ptrs hs3).1, ?_⟩
      refine sweep_ok (o := o) g hd5 hs3 hk hd (by rw [pfs_put, pfs_del]; exact m2) ho (h4'.keepS st3 (by decide)) (h13'.keepS st3 (by decide)) fun ps' tag4 σ4 st4 hd6 hF => ?_
      exact hQ ps' tag4 σ4 (sA.trans ((st3.mono (by decide)).trans st4)) hd6 hF
theorem save_ok {T M : Nat} {cap : Int} {ps : Ps} {o : Option (Nat × Str)} {k : Nat} {d : Str} {a3 : Sl} {Q : Int → AH → Prop} (g : Glob ro) (h : Disk tag σ 10 T M cap ps) (hc0 : 0 ≤ cap) (hc1 : cap ≤ 1073741824) (hS : StFs o (pfs ps)) (hk : k < 10) (hD : SL.Data ro tag σ a3 (d.map vU)) (hdl : d.length < 4611686018427387904)
    (hfail : ∀ e, e ≠ 0 → (1048576 < d.length ∨ (∃ k0 d0, o = some (k0, d0) ∧ k ≤ k0) ∨ cap < (used (pfs ps) + d.length + 35 : Nat)) → ∀ ps' tag' σ', StepS SC ro tag σ tag' σ' → Disk tag' σ' 10 T M cap ps' → StFs o (pfs ps') → Q e σ')
    (hok : d.length ≤ 1048576 → (∀ k0 d0, o = some (k0, d0) → k0 < k) → ∀ ps' tag' σ', StepS SC ro tag σ tag' σ' → Disk tag' σ' 10 T M cap ps' → StFs (some (k, d)) (pfs ps') → Q 0 σ') :
    c_snap_Save B ro (some ⟨T, 0, none⟩) (S [115]) (k : Int) a3 σ Q := by
  refine snap_Save_ok fun hs => ?_
  unfold f_snap_Save
  have hln : a3.len = d.length := by rw [hD.len, List.length_map]
  refine nw_cells (tag := tag) 42 hs fun x4 tag1 σ1 st1 r1 => ?_
  refine ⟨_, Row.cell1 r1 (st1 []).sep, ?_⟩
  have h1 := h.keep (st1 []) (by simp)
  refine c_snap_Load_mono (Q := fun n s b e σ2 => e = 0 ∧ ∃ tag2, StepS [0, 7, 8, 9, 31] ro tag1 σ1 tag2 σ2 ∧ ((b = false ∧ o = none) ∨ (b = true ∧ ∃ k0 d0, o = some (k0, d0) ∧ n = (k0 : Nat)))) (load_ok g h1 (by decide) (by decide) hS (fun e tag2 σ2 st2 => ⟨rfl, tag2, st2, .inl ⟨rfl, e⟩⟩) fun k0 d0 e s' tag2 σ2 st2 _ => ⟨rfl, tag2, st2, .inr ⟨rfl, k0, d0, e, rfl⟩⟩) ?_
  rintro n s b e σ2 hs2 ⟨rfl, tag2, st2, hb⟩
  have h2 : Disk tag2 σ2 10 T M cap ps := DiskAt.keepS h1 st2 (by decide)
  have s02 : StepS SC ro tag σ tag2 σ2 := ((st1 []).s (by simp)).trans (st2.mono (by decide))
  rw [if_neg (by simp), if_neg (by omega), hln]
  by_cases c1 : 1048576 < d.length
  · rw [if_pos (by omega)]
    exact hfail 14 (by decide) (.inl c1) ps tag2 σ2 s02 h2 hS
  rw [if_neg (by omega)]
  by_cases c2 : b = true ∧ (k : Int) ≤ n
  · rw [if_pos c2]
    rcases hb with ⟨h0, _⟩ | ⟨_, k0, d0, e0, e1⟩
    · rw [h0] at c2; cases c2.1
    · exact hfail 41 (by decide) (.inr (.inl ⟨k0, d0, e0, by omega⟩)) ps tag2 σ2 s02 h2 hS
  rw [if_neg c2]
  have ho : ∀ k0 d0, o = some (k0, d0) → k0 < k := fun k0 d0 e => by
    rcases hb with ⟨_, h0⟩ | ⟨h0, k1, d1, e0, e1⟩
    · rw [h0] at e; cases e
    · rw [e0] at e; cases e
      have : ¬ (k : Int) ≤ n := fun hh => c2 ⟨h0, hh⟩
      omega
  obtain ⟨f1, f2⟩ := hS.fresh hk ho
  have p1 := pfs_none f1
  have p2 := pfs_none f2
  have hne := name_ne hk
  have hdf := dname_dfile hk
  have hdt : dName tmpN = true := by decide
  have hU := hS.used h.keys
  refine dataFile_ok g hk ⟨by decide, ?_⟩
  rw [show (⟨#[46, 116, 109, 112]⟩ : ByteArray) = S [46, 116, 109, 112] from rfl, S_append]
  refine nw_cells (tag := tag2) 40 hs2 fun x13 tag3 σ3 st3 r3 => ?_
  refine nw_cells (tag := tag3) 41 (st3 []).sep fun x14 tag4 σ4 st4 r4 => ?_
  refine (r3.keep (st4 []) (by simp)).stAll (st4 []).sep rfl (by simp [storable]) fun σ5 st5 r5 => ?_
  refine (r4.keep st5 (by decide)).stAll st5.sep rfl (by simp [storable]) fun σ6 st6 r6 => ?_
  have s26 : StepS [40, 41] ro tag2 σ2 tag4 σ6 := ((st3 []).s (by simp)).trans (((st4 []).s (by simp)).trans ((st5.s (by decide)).trans (st6.s (by decide))))
  have h6 : Disk tag4 σ6 10 T M cap ps := DiskAt.keepS h2 s26 (by decide)
  have r13 : Row tag4 σ6 40 9 ⟨some ⟨x13, 0, none⟩, 1, 1⟩ [Pa.vS (dfile k)] := r5.keep st6 (by decide)
  have r14 : Row tag4 σ6 41 9 ⟨some ⟨x14, 0, none⟩, 1, 1⟩ [Pa.vS tmpN] := r6
  have r04 := (r1.keepS st2 (by decide)).keepS s26 (by decide)
  refine clear_ok (a := dfile k) (c := tmpN) h6 (by decide) (by decide) hdf hdt r13 r14 r04 fun tag7 σ7 st7 h7 => ?_
  rw [adel_no p1, adel_no p2] at h7
  have hs7 := st7.sep
  have r13 := r13.keepS st7 (by decide)
  have r14 := r14.keepS st7 (by decide)
  have r04 := r04.keepS st7 (by decide)
  have s07 : StepS SC ro tag σ tag7 σ7 := s02.trans ((s26.mono (by decide)).trans (st7.mono (by decide)))
  have hD7 := hD.keepS s07 (by decide)
  refine lent_roles tag7 [40, 41] ?_
  have hsL : SL.Sep (join ro (inR tag7 [40, 41] σ7)) (outR tag7 [40, 41] σ7) := hs7.lentR
  refine ⟨S (dfile k), r13.lendR hs7 (i := 0) (by decide) rfl rfl, S tmpN, r14.lendR hs7 (i := 0) (by decide) rfl rfl, ?_⟩
  have hDL := hD7.outR (L := [40, 41]) (by decide)
  refine digestOf_ok (tag := tag7) (l := d) (fun tag' σ' st => (hDL.keep st (by decide)).read st.sep) hdl fun tag8 σ8 st8 => ?_
  refine mbytes_ok (tag := tag8) (q := 2) (by decide) (by omega) hdl fun s9 tag9 σ9 st9 r9 => ?_
  refine nw_cells (tag := tag9) 44 st9.sep fun x69 tagA σA stA rA => ?_
  intro hdis
  have sL : StepS [0, 1, 2] (join ro (inR tag7 [40, 41] σ7)) tag7 (outR tag7 [40, 41] σ7) tagA σA := (st8.s (by decide)).trans ((st9.s (by decide)).trans ((stA []).s (by simp)))
  have stB := sL.backR hs7 hdis
  have rM := (r9.keep (stA []) (by simp)).backR hdis
  have r69 := rA.backR hdis
  generalize tagB tag7 tagA [40, 41] σ7 = tagB' at stB rM r69
  generalize join (inR tag7 [40, 41] σ7) σA = σB at stB rM r69
  have hsB := stB.sep
  have hB : Disk tagB' σB 10 T M cap ps := DiskAt.keepS h7 stB (by decide)
  have r13 := r13.keepS stB (by decide)
  have r14 := r14.keepS stB (by decide)
  have r04 := r04.keepS stB (by decide)
  have s0B : StepS SC ro tag σ tagB' σB := s07.trans (stB.mono (by decide))
  have hDB := hD.keepS s0B (by decide)
  obtain ⟨p69, hp69, hg69⟩ := r69.ptr hsB (by simp)
  cases hp69
  -- the first file
  refine lfpD.intro ?_
  unfold l41_snap_Save
  rw [if_pos (by simp)]
  refine ⟨_, rfl, by omega, by simp, S (dfile k), a3, cellsAt_of 0 fun i v hv => ?_, ?_⟩
  · rw [Nat.zero_add]
    match i, hv with
    | 0, hv => cases hv; exact hg69 0 _ rfl
    | 1, hv => cases hv; exact hg69 1 _ rfl
  refine nw_st (tag := tagB') 45 hsB rfl (by simp [storable, Sl.v]) fun x17 tagC σC stC rC => ?_
  have hsC := (stC []).sep
  obtain ⟨p17, hp17, hg17⟩ := rC.ptr hsC (by simp)
  cases hp17
  refine ⟨_, Row.cell1 (r04.keep (stC []) (by simp)) hsC, S (dfile k), hg17 0 _ rfl, a3, hg17 1 _ rfl, ?_⟩
  have hC := hB.keep (stC []) (by simp)
  have hDC := hDB.keep (stC []) (by simp)
  have s0C : StepS SC ro tag σ tagC σC := s0B.trans ((stC []).s (by simp))
  refine append_ok (n := dfile k) (d := d) hC (by decide) (by decide) hc0 hc1 (by omega) hln (by omega) (fun tag' σ' st => (hDC.keepS st (by decide)).read st.sep) (fun e => by rw [hdf] at e; cases e) ?_ ?_
  · intro _ hsp tagD σD stD
    rw [if_pos (by decide)]
    have hD' := hC.keep stD (by decide)
    refine clear_ok (a := dfile k) (c := tmpN) hD' (by decide) (by decide) hdf hdt ((r13.keep (stC []) (by simp)).keep stD (by decide)) ((r14.keep (stC []) (by simp)).keep stD (by decide)) ((r04.keep (stC []) (by simp)).keep stD (by decide)) fun tagE σE stE hE => ?_
    rw [adel_no p1, adel_no p2] at hE
    exact hfail 32 (by decide) (.inr (.inr (by omega))) ps tagE σE (s0C.trans ((stD.s (by decide)).trans (stE.mono (by decide)))) hE hS
  · intro _ hfit ps2 tagD σD stD hD2 e2
    rw [if_neg (by simp)]
    rw [fapp_new f1] at e2
    have hsD := stD.sep
    have r69D := (r69.keep (stC []) (by simp)).keepS stD (by decide)
    obtain ⟨p69, hp69, hg69⟩ := r69D.ptr hsD (by simp)
    cases hp69
    have r13 := (r13.keep (stC []) (by simp)).keepS stD (by decide)
    have r14 := (r14.keep (stC []) (by simp)).keepS stD (by decide)
    have r04 := (r04.keep (stC []) (by simp)).keepS stD (by decide)
    have rM := (rM.keep (stC []) (by simp)).keepS stD (by decide)
    refine lfpD.intro ?_
    rw [show IntKind.i64.wrap (0 + 1) = 1 from by decide, if_pos (by simp)]
    refine ⟨_, rfl, by omega, by simp, S tmpN, s9, cellsAt_of 0 fun i v hv => ?_, ?_⟩
    · rw [Nat.zero_add]
      match i, hv with
      | 0, hv => cases hv; exact hg69 2 _ rfl
      | 1, hv => cases hv; exact hg69 3 _ rfl
    refine nw_st (tag := tagD) 45 hsD rfl (by simp [storable, Sl.v]) fun y17 tagE σE stE rE => ?_
    have hsE := (stE []).sep
    obtain ⟨p17, hp17, hg17⟩ := rE.ptr hsE (by simp)
    cases hp17
    refine ⟨_, Row.cell1 (r04.keep (stE []) (by simp)) hsE, S tmpN, hg17 0 _ rfl, s9, hg17 1 _ rfl, ?_⟩
    have hE := hD2.keep (stE []) (by simp)
    have rM := rM.keep (stE []) (by simp)
    have hm35 := man35 (d := d) hk (by omega)
    have hu2 : used (pfs ps2) = used (pfs ps) + d.length := by rw [e2, used_app]
    have s0E : StepS SC ro tag σ tagE σE := s0C.trans ((stD.mono (by decide)).trans ((stE []).s (by simp)))
    have g1 : (pfs ps2).lookup tmpN = none := by rw [e2, look_app f1, if_neg (fun e => hne.2 e.symm)]; exact f2
    refine append_ok (n := tmpN) (d := man k d) hE (by decide) (by decide) hc0 hc1 (by omega) (by rw [rM.len, List.length_map]) (by omega) (fun tag' σ' st => (rM.keepS st (by decide)).read st.sep) (fun e => by rw [hdt] at e; cases e) ?_ ?_
    · intro _ hsp tagF σF stF
      rw [if_pos (by decide)]
      have hF' := hE.keep stF (by decide)
      refine clear_ok (a := dfile k) (c := tmpN) hF' (by decide) (by decide) hdf hdt ((r13.keep (stE []) (by simp)).keep stF (by decide)) ((r14.keep (stE []) (by simp)).keep stF (by decide)) ((r04.keep (stE []) (by simp)).keep stF (by decide)) fun tagG σG stG hG => ?_
      refine hfail 32 (by decide) (.inr (.inr (by omega))) _ tagG σG (s0E.trans ((stF.s (by decide)).trans (stG.mono (by decide)))) hG ?_
      rw [pfs_del, pfs_del, e2, adel_app f1, adel_no f2]
      exact hS
    · intro _ hfit2 ps3 tagF σF stF hF3 e3
      rw [if_neg (by simp)]
      rw [fapp_new g1, e2] at e3
      refine lfpD.intro ?_
      rw [show IntKind.i64.wrap (1 + 1) = 2 from by decide, if_neg (by simp)]
      refine finish_ok (fs := pfs ps) (o := o) g hF3 stF.sep hk (by omega) hS (by rw [pfs_keys]; exact h.keys) ho e3 ((r04.keep (stE []) (by simp)).keepS stF (by decide)) ((r13.keep (stE []) (by simp)).keepS stF (by decide)) ((r14.keep (stE []) (by simp)).keepS stF (by decide)) fun ps' tagG σG stG hG hFs => ?_
      exact hok (by omega) ho ps' tagG σG (s0E.trans ((stF.mono (by decide)).trans (stG.mono (by decide)))) hG hFs
end Go.Proofs.YtfobjidchipdaaaGreatDoor.Sn
