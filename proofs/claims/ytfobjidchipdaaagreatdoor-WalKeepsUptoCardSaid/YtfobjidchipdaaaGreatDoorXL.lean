/- WlB, WlC, Dr2, WlL, WlD, WlE, WlF -/
import Derived.Test.YtfobjidchipdaaaGreatDoorXK
/- Logs, the walk: names; frames; the files' numbers. -/
namespace Go.Proofs.YtfobjidchipdaaaGreatDoor.Wl
open Go Go.Proofs.YtfobjidchipdaaaGreatDoor.SL Go.Proofs.YtfobjidchipdaaaGreatDoor.G Go.Proofs.YtfobjidchipdaaaGreatDoor.Pa Go.Proofs.YtfobjidchipdaaaGreatDoor.Wi Go.Proofs.YtfobjidchipdaaaGreatDoor.Dk
set_option linter.unusedSimpArgs false
set_option linter.unusedVariables false
set_option maxRecDepth 100000
variable {B : World} {ro σ σ' : AH} {tag tag' : Nat → Nat}
theorem glob_more {ψ : AH} (g : Glob ro) : Glob (join ro ψ) := ⟨fun w h => g.tab w fun b o hb => h b o (by unfold join; rw [hb])⟩
theorem rightLog_ok {Q : Bool → AH → Prop} (hQ : Q true σ) : c_wal_rightName B ro (S logN) σ Q := by
  refine wal_rightName_ok fun _ => ?_
  unfold f_wal_rightName
  rw [if_neg (by rw [show (⟨#[]⟩ : ByteArray) = S [] from rfl, S_inj]; rintro (h | h); cases h; exact absurd h (by decide))]
  refine ACalls.of_calls fun w hw hsep => ?_
  refine (Tryz.strings_Contains_one (S logN) 46 w).mono ?_
  rintro e w' ⟨he, rfl⟩
  refine ⟨_, fun _ => none, he, Go.RowKit.Below.refl _ _, News.none _ _, false, by rw [show (S logN).data.toList = logN from rfl, show decide (0 ≤ Lib.indexByte logN 46) = false from by decide], ?_⟩
  rw [join_none_right]
  show j1_wal_rightName B ro (S logN) Q false σ
  unfold j1_wal_rightName
  rw [if_neg (by decide)]
  refine Sn.trim_ok (l := logN) (cs := [97, 98, 99, 100, 101, 102, 103, 104, 105, 106, 107, 108, 109, 110, 111, 112, 113, 114, 115, 116, 117, 118, 119, 120, 121, 122, 48, 49, 50, 51, 52, 53, 54, 55, 56, 57, 45]) (by decide) (by decide) (by decide) ?_
  rw [show Lib.trimS logN _ = [] from by decide]
  exact hQ
theorem cutFile_ok {a : Option Addr} {Q : ByteArray → AH → Prop} (hQ : ∀ tag' σ', (∀ R, Step R ro tag σ tag' σ') → Q (S cutN) σ') : c_wal_place_cutFile B ro a (S logN) σ Q := by
  refine wal_place_cutFile_ok fun hs => ?_
  unfold f_wal_place_cutFile
  refine nw_cells (tag := tag) 0 hs fun x tag1 σ1 st1 r1 => ?_
  obtain ⟨p, hp, hg⟩ := r1.ptr (st1 []).sep (by simp)
  cases hp
  refine ⟨_, hg 1 _ rfl, by decide, ?_⟩
  exact hQ tag1 σ1 st1
theorem file_ok {a : Option Addr} {n : Nat} {Q : ByteArray → AH → Prop} (g : Glob ro) (hn : n < 10000) (hQ : ∀ tag' σ', (∀ R, Step R ro tag σ tag' σ') → Q (S (fname n)) σ') : c_wal_place_file B ro a (S logN) (n : Int) σ Q := by
  refine wal_place_file_ok fun hs => ?_
  unfold f_wal_place_file
  refine nw_cells (tag := tag) 0 hs fun x tag1 σ1 st1 r1 => ?_
  have hs1 := (st1 []).sep
  refine Sn.itoa_ok g (by omega) ?_
  obtain ⟨tX, hX⟩ := r1.tagOf
  refine lent_block x ?_
  have cX : ∀ τ i v, [Value.pointer a, .string (S logN)][i]? = some v → acell (join ro (SL.one σ1 x)) τ ((⟨x, 0, none⟩ : Addr).add i) = some v := fun τ i v hv => by
    have := r1.lend hs1 (τ := τ) (i := i) (v := v) hv
    rwa [Nat.mul_one] at this
  have hlen : (Lib.decDigits n).length ≤ 4 ∧ 1 ≤ (Lib.decDigits n).length := by
    have h6 := congrArg List.length (d6_of hn)
    rw [List.length_append, List.length_replicate] at h6
    have h7 : (d6 n).length = 6 := rfl
    rw [h7] at h6
    have hle : (Lib.decDigits n).length ≤ 6 := by omega
    have hz := d6_of hn
    refine ⟨?_, ?_⟩
    · rw [Lib.decDigits]
      split
      · simp
      · rw [List.length_append, Lib.decDigits]
        split
        · simp
        · rw [List.length_append, Lib.decDigits]
          split
          · simp
          · rw [List.length_append, Lib.decDigits, dif_pos (by omega)]; simp
    · rw [Lib.decDigits]
      split <;> simp
  refine ⟨S logN, cX _ 1 _ rfl, by decide, ?_⟩
  have hsz : ((S (Lib.decDigits n)).size : Int) = ((Lib.decDigits n).length : Nat) := by rw [S_size']
  have ek : (if 0 < IntKind.i64.wrap (6 - ((S (Lib.decDigits n)).size : Int)) then IntKind.i64.wrap (6 - ((S (Lib.decDigits n)).size : Int)) else 0) = ((6 - (Lib.decDigits n).length : Nat) : Int) := by
    rw [hsz, w64_eq (by omega) (by omega), if_pos (by omega)]; omega
  rw [ek]
  refine Sn.repeat_ok (by omega) ?_
  have e1 : S logN ++ (⟨#[46]⟩ : ByteArray) = S [108, 111, 103, 46] := by rw [show (⟨#[46]⟩ : ByteArray) = S [46] from rfl, S_append]; rfl
  refine ⟨?_, ?_, ?_⟩
  · rw [e1, S_size', S_size', List.length_replicate]; simp; omega
  · rw [e1, S_append, S_size', S_size', List.length_append, List.length_replicate]; simp; omega
  intro hdis
  rw [e1, S_append, S_append, List.append_assoc, d6_of hn]
  have hj : join (SL.one σ1 x) (SL.del σ1 x) = σ1 := by
    funext c
    unfold join SL.one SL.del
    by_cases e : c = x
    · subst e; simp; cases σ1 c <;> rfl
    · simp [e]
  rw [hj]
  exact hQ tag1 σ1 st1
theorem wframe_ok {q : Nat} {s : Sl} {p : Str} {Q : Sl → AH → Prop} (hq : q ≠ 0) (hl : p.length ≤ 65536) (hln : s.len = p.length) (hx : ∀ tag' σ', Step [] ro tag σ tag' σ' → SL.Read ro σ' s (p.map vU))
    (hok : ∀ s' tag' σ', (∀ R, q ∈ R → Step R ro tag σ tag' σ') → Row tag' σ' q 5 s' ((frame p).map vU) → Q s' σ') : c_wal_frame B ro s σ Q := by
  refine wal_frame_ok fun hs => ?_
  unfold f_wal_frame
  exact frame_ok (tag := tag) (q := q) hq hs hln hx (fun h => by omega) fun _ => hok
/-- the numbers of the segments' files -/
theorem numbers_ok {T M q : Nat} {cap : Int} {ps : Ps} {ns : List Nat} {Q : Sl → AH → Prop} (h : Disk tag σ 10 T M cap ps) (hns : (pfs ps).map (·.1) = ns.map fname) (hlt : ∀ n ∈ ns, 0 < n ∧ n < 1003) (hpw : ns.Pairwise (· < ·)) (hq : q ≠ 0) (hq64 : q < 64) (hq3 : q ≠ 3)
    (hQ : ∀ s tag' σ', StepS [0, q] ro tag σ tag' σ' → Row tag' σ' q 3 s (ns.map fun (n : Nat) => Zt.vI (n : Int)) → Q s σ') : c_wal_place_numbers B ro (some ⟨T, 0, none⟩) (S logN) σ Q := by
  refine wal_place_numbers_ok fun hs => ?_
  unfold f_wal_place_numbers
  refine nw_cells (tag := tag) 3 hs fun x tag1 σ1 st1 r1 => ?_
  have h1 := h.keep (st1 []) (by simp)
  obtain ⟨p, hp, hg⟩ := r1.ptr (st1 []).sep (by simp)
  cases hp
  refine ⟨_, hg 0 _ rfl, _, rfl, _, (DiskAt.ptrs h1 (st1 []).sep).1, ?_⟩
  have hk : ps.map (·.1) = ns.map fname := by rw [← pfs_keys]; exact hns
  have hnl : ns.length ≤ 1003 := by
    have hnd : ns.Nodup := hpw.imp fun h => by omega
    have := Sn.sub_len (L := List.range 1003) hnd fun x hx => List.mem_range.2 (hlt x hx).2
    rwa [List.length_range] at this
  have hpl : ps.length = ns.length := by have := congrArg List.length hk; simpa using this
  refine files_ok (q := 3) (tag := tag1) h1.map h1.keys (fun p hp => ?_) (by omega) fun fs tag2 σ2 ks st2 hperm hsort r2 => ?_
  · have : p.1 ∈ ps.map (·.1) := List.mem_map.2 ⟨p, hp, rfl⟩
    rw [hk] at this
    obtain ⟨n, _, e⟩ := List.mem_map.1 this
    rw [← e, fname_len]; decide
  have hks : ks = ns.map fname := by
    rw [hk] at hperm
    have hp2 : (ns.map fname).Pairwise (· ≤ ·) := by
      rw [List.pairwise_map]
      refine List.Pairwise.imp_of_mem (fun {a b} ha hb hab => ?_) hpw
      exact List.le_of_lt (fname_lt hab (hlt b hb).2)
    exact List.Perm.eq_of_pairwise (fun a b _ _ h1 h2 => List.le_antisymm h1 h2) hsort hp2 hperm
  subst hks
  have hfl : fs.len = ns.length := by rw [r2.len, List.length_map, List.length_map]
  have r12 := r1.keep (st2 []) (by simp)
  suffices ∀ (m j : Nat) (s : Sl) (tag3 : Nat → Nat) (σ3 : AH), j + m = ns.length → StepS [0, q] ro tag2 σ2 tag3 σ3 → (Row tag3 σ3 3 9 fs ((ns.map fname).map Pa.vS)) → Row tag3 σ3 3 128 ⟨some ⟨x, 0, none⟩, 2, 2⟩ [.pointer (some ⟨T, 0, none⟩), .string (S logN)] → Row tag3 σ3 q 3 s ((ns.take j).map fun (n : Nat) => Zt.vI (n : Int)) → lfpD (l8_wal_place_numbers B ro x fs Q) (s, (j : Int)) σ3 from
    this _ 0 _ tag2 σ2 (Nat.zero_add _) (StepS.refl (st2 []).sep) r2 r12 (Row.nil q 3)
  intro m
  induction m with
  | zero =>
    intro j s tag3 σ3 hj st3 rf rx r3
    refine lfpD.intro ?_
    unfold l8_wal_place_numbers
    simp only
    rw [if_neg (by omega)]
    unfold j2_wal_place_numbers
    rw [List.take_of_length_le (by omega)] at r3
    exact hQ s tag3 σ3 (((st1 []).s (by simp)).trans (((st2 []).s (by simp)).trans st3)) r3
  | succ m ih =>
    intro j s tag3 σ3 hj st3 rf rx r3
    have hjn : j < ns.length := by omega
    obtain ⟨pf, hpf, hgf⟩ := rf.ptr st3.sep (by simp; omega)
    obtain ⟨px, hpx, hgx⟩ := rx.ptr st3.sep (by simp)
    cases hpx
    obtain ⟨hn0, hn1⟩ := hlt _ (List.getElem_mem hjn)
    obtain ⟨_, f1, f2, _⟩ := fname_facts _ hn1
    refine lfpD.intro ?_
    generalize hY : lfpD (l8_wal_place_numbers B ro x fs Q) = Y
    unfold l8_wal_place_numbers
    simp only
    rw [if_pos (by omega)]
    refine ⟨pf, hpf, by omega, by omega, S (fname ns[j]), by rw [Int.toNat_natCast]; exact hgf j _ (by rw [List.getElem?_map, List.getElem?_map, List.getElem?_eq_getElem hjn]; rfl), S logN, hgx 1 _ rfl, by decide, ?_⟩
    have htk : ns.take (j + 1) = ns.take j ++ [ns[j]] := by rw [List.take_add_one, List.getElem?_eq_getElem hjn]; rfl
    generalize ns[j] = n at *
    rw [show S logN ++ (⟨#[46]⟩ : ByteArray) = S [108, 111, 103, 46] from by rw [show (⟨#[46]⟩ : ByteArray) = S [46] from rfl, S_append]; rfl]
    refine Zt.cutPrefix_ok ?_
    have ecp : Zt.cutPre (fname n) [108, 111, 103, 46] = (d6 n, true) := by
      unfold Zt.cutPre
      rw [if_pos (by rfl)]; rfl
    rw [ecp, if_neg (by rw [S_size']; simp; rfl)]
    refine Sn.trim_ok (l := d6 n) (cs := [48, 49, 50, 51, 52, 53, 54, 55, 56, 57]) (by show 6 ≤ _; decide) (by decide) (by decide) ?_
    rw [f1]
    unfold j18_wal_place_numbers
    rw [if_neg (by rw [show (⟨#[]⟩ : ByteArray) = S [] from rfl]; simp)]
    refine Sn.atoi_ok (by show 6 ≤ _; decide) f2 ?_
    rw [if_pos (by omega)]
    refine nw_cells (tag := tag3) 0 st3.sep fun b tag4 σ4 st4 r4 => ?_
    refine awp_append1 (r3.keep (st4 []) (by simp)) (st4 []).sep Sn.u23s ty3 rfl rfl (Row.cell1 r4 (st4 []).sep) rfl (by rw [List.length_map, List.length_take]; omega) (by decide) fun s2 tag5 σ5 st5 r5 => ?_
    refine ⟨s2, rfl, ?_⟩
    unfold j11_wal_place_numbers
    rw [Pa.inc j (by omega), ← hY]
    refine ih (j + 1) s2 tag5 σ5 (by omega) (st3.trans (((st4 []).s (by simp)).trans (st5.s (by simp [Nat.mod_eq_of_lt hq64])))) ((rf.keep (st4 []) (by simp)).keep st5 (by simp; omega)) ((rx.keep (st4 []) (by simp)).keep st5 (by simp; omega)) ?_
    · rw [htk, List.map_append]; exact r5
end Go.Proofs.YtfobjidchipdaaaGreatDoor.Wl

/- Logs: how one lies in memory; Next, First, Safe, Get, Sync. -/
namespace Go.Proofs.YtfobjidchipdaaaGreatDoor.Wl
open Go Go.Proofs.YtfobjidchipdaaaGreatDoor.SL Go.Proofs.YtfobjidchipdaaaGreatDoor.G Go.Proofs.YtfobjidchipdaaaGreatDoor.Pa Go.Proofs.YtfobjidchipdaaaGreatDoor.Wi Go.Proofs.YtfobjidchipdaaaGreatDoor.Dk
set_option linter.unusedSimpArgs false
set_option linter.unusedVariables false
set_option maxRecDepth 100000
variable {B : World} {ro σ σ' : AH} {tag tag' : Nat → Nat}
section
variable {L : List Nat}
theorem FileAt.outR {tf : TypeId} {r b : Nat} {f : Fl} (h : FileAt tf tag σ r b f) (h1 : r + 64 * (2 * b + 2) ∉ L) (h2 : r + 64 * (2 * b + 3) ∉ L) : FileAt tf tag (SL.outR tag L σ) r b f := by
  obtain ⟨s, a, c⟩ := h
  exact ⟨s, a.outR h1, Sn.RowC.outR c h2⟩
theorem FileAt.backR {tf : TypeId} {tag1 : Nat → Nat} {τ : AH} {r b : Nat} {f : Fl} (h : FileAt tf tag1 τ r b f) (hd : Disj (inR tag L σ) τ) : FileAt tf (tagB tag tag1 L σ) (join (inR tag L σ) τ) r b f := by
  obtain ⟨s, a, c, h1, h2⟩ := h
  exact ⟨s, a.backR hd, c, h1.backR hd, h2⟩
theorem DiskAt.outR {td tf : TypeId} {r T M : Nat} {cap : Int} {ps : Ps} (h : DiskAt td tf tag σ r T M cap ps) (hL : ∀ x ∈ L, x % 64 ≠ r % 64) : DiskAt td tf tag (SL.outR tag L σ) r T M cap ps :=
  ⟨h.keys, h.nd, h.cell.outR fun m => hL _ m rfl, h.map.outR fun m => hL _ m (by omega), fun p hp => FileAt.outR (h.nodes p hp) (fun m => hL _ m (by omega)) fun m => hL _ m (by omega)⟩
theorem DiskAt.backR {td tf : TypeId} {tag1 : Nat → Nat} {τ : AH} {r T M : Nat} {cap : Int} {ps : Ps} (h : DiskAt td tf tag1 τ r T M cap ps) (hd : Disj (inR tag L σ) τ) : DiskAt td tf (tagB tag tag1 L σ) (join (inR tag L σ) τ) r T M cap ps :=
  ⟨h.keys, h.nd, h.cell.backR hd, h.map.backR hd, fun p hp => FileAt.backR (h.nodes p hp) hd⟩
end
abbrev vI := Zt.vI
abbrev vU := Zt.vU
def ptrs (xs : List (Nat × Seg)) : List Value := xs.map fun x => ptr x.1
def SegAt (tag : Nat → Nat) (σ : AH) (r b : Nat) (g : Seg) : Prop := ∃ (s : Sl) (ss : List Sl), Row tag σ (r + 64 * (2 * b + 2)) 138 ⟨some ⟨b, 0, none⟩, 4, 4⟩ [vI (g.number : Nat), vI (g.first : Nat), Sl.v s, vI (g.bytes.length : Nat)] ∧ Row tag σ (r + 64 * (2 * b + 3)) 22 s (ss.map Sl.v) ∧ ss.length = g.recs.length ∧ ∀ (i : Nat) (x : Sl) (d : Str), ss[i]? = some x → g.recs[i]? = some d → Row tag σ 6 5 x (d.map vU)
theorem SegAt.keep {R : List Nat} {r b : Nat} {g : Seg} (h : SegAt tag σ r b g) (k : Step R ro tag σ tag' σ') (h1 : r + 64 * (2 * b + 2) ∉ R) (h2 : r + 64 * (2 * b + 3) ∉ R) (h6 : 6 ∉ R) : SegAt tag' σ' r b g := by
  obtain ⟨s, ss, a, c, e, d⟩ := h
  exact ⟨s, ss, a.keep k h1, c.keep k h2, e, fun i x y hx hy => (d i x y hx hy).keep k h6⟩
theorem SegAt.outR {L : List Nat} {r b : Nat} {g : Seg} (h : SegAt tag σ r b g) (h1 : r + 64 * (2 * b + 2) ∉ L) (h2 : r + 64 * (2 * b + 3) ∉ L) (h6 : 6 ∉ L) : SegAt tag (SL.outR tag L σ) r b g := by
  obtain ⟨s, ss, a, c, e, d⟩ := h
  exact ⟨s, ss, a.outR h1, c.outR h2, e, fun i x y hx hy => (d i x y hx hy).outR h6⟩
structure LogAt (tag : Nat → Nat) (σ : AH) (r T Lb : Nat) (limit : Int) (safe : Nat) (s : Sl) (xs : List (Nat × Seg)) : Prop where
  cell : Row tag σ r 131 ⟨some ⟨Lb, 0, none⟩, 5, 5⟩ [ptr T, vS logN, vI limit, Sl.v s, vI (safe : Nat)]
  segs : Held tag σ (r + 64) s (ptrs xs)
  node : ∀ x ∈ xs, SegAt tag σ r x.1 x.2
  nd : (xs.map (·.1)).Nodup
theorem LogAt.keepS {C : List Nat} {r T Lb safe : Nat} {limit : Int} {s : Sl} {xs : List (Nat × Seg)} (h : LogAt tag σ r T Lb limit safe s xs) (k : StepS C ro tag σ tag' σ') (hr : r % 64 ∉ C) (h6 : 6 ∉ C) : LogAt tag' σ' r T Lb limit safe s xs := by
  obtain ⟨R, h1, h2⟩ := k
  exact ⟨h.cell.keep h2 fun m => hr (h1 _ m), h.segs.keep h2 fun m => hr (by have := h1 _ m; rwa [Nat.add_mod_right] at this), fun x hx => (h.node x hx).keep h2 (fun m => hr (by have := h1 _ m; rwa [Nat.add_mul_mod_self_left] at this)) (fun m => hr (by have := h1 _ m; rwa [Nat.add_mul_mod_self_left] at this)) (fun m => h6 (h1 _ m)), h.nd⟩
theorem LogAt.keep0 {r T Lb safe : Nat} {limit : Int} {s : Sl} {xs : List (Nat × Seg)} (h : LogAt tag σ r T Lb limit safe s xs) (k : Step [] ro tag σ tag' σ') : LogAt tag' σ' r T Lb limit safe s xs := h.keepS (C := []) (k.s (by simp)) (by simp) (by simp)
theorem LogAt.at {r T Lb safe : Nat} {limit : Int} {s : Sl} {xs : List (Nat × Seg)} (h : LogAt tag σ r T Lb limit safe s xs) (hs : SL.Sep ro σ) (i : Nat) (v : Value) (hv : [ptr T, vS logN, vI limit, Sl.v s, vI (safe : Nat)][i]? = some v) : acell ro σ ((⟨Lb, 0, none⟩ : Addr).add i) = some v := by
  obtain ⟨p, hp, hg⟩ := h.cell.ptr hs (by simp)
  cases hp
  have := hg i v hv
  rwa [Nat.mul_one] at this
theorem LogAt.len {r T Lb safe : Nat} {limit : Int} {s : Sl} {xs : List (Nat × Seg)} (h : LogAt tag σ r T Lb limit safe s xs) : s.len = xs.length := by
  have := h.segs.1
  unfold ptrs at this
  rwa [List.length_map] at this
/-- the i-th segment's pointer -/
theorem LogAt.seg {r T Lb safe : Nat} {limit : Int} {s : Sl} {xs : List (Nat × Seg)} (h : LogAt tag σ r T Lb limit safe s xs) (hs : SL.Sep ro σ) {i : Nat} {x : Nat × Seg} (hx : xs[i]? = some x) : ∃ p, s.a = some p ∧ acell ro σ (p.add (i * 1)) = some (ptr x.1) := by
  have hr := h.segs.read hs
  obtain ⟨p, hp⟩ : ∃ p, s.a = some p := by
    cases e : s.a with
    | none =>
      have := hr.2.1 e
      unfold ptrs at this
      rw [List.map_eq_nil_iff] at this
      rw [this] at hx; cases hx
    | some p => exact ⟨p, rfl⟩
  refine ⟨p, hp, ?_⟩
  rw [Nat.mul_one]
  exact hr.2.2 p hp i _ (by unfold ptrs; rw [List.getElem?_map, hx]; rfl)
theorem SegAt.at {r b : Nat} {g : Seg} (h : SegAt tag σ r b g) (hs : SL.Sep ro σ) : ∃ (s : Sl), s.len = g.recs.length ∧ (∀ (i : Nat) (v : Value), [vI (g.number : Nat), vI (g.first : Nat), Sl.v s, vI (g.bytes.length : Nat)][i]? = some v → acell ro σ ((⟨b, 0, none⟩ : Addr).add i) = some v) ∧ ∀ (i : Nat) (d : Str), g.recs[i]? = some d → ∃ p x, s.a = some p ∧ acell ro σ (p.add (i * 1)) = some (Sl.v x) ∧ Row tag σ 6 5 x (d.map vU) := by
  obtain ⟨s, ss, a, c, e, d⟩ := h
  refine ⟨s, by rw [c.len, List.length_map, e], fun i v hv => ?_, fun i y hy => ?_⟩
  · obtain ⟨p, hp, hg⟩ := a.ptr hs (by simp)
    cases hp
    have := hg i v hv
    rwa [Nat.mul_one] at this
  · have hi : i < ss.length := by
      rw [e]
      exact (List.getElem?_eq_some_iff.1 hy).1
    obtain ⟨p, hp, hg⟩ := c.ptr hs (by rw [List.length_map]; omega)
    exact ⟨p, ss[i], hp, hg i _ (by rw [List.getElem?_map, List.getElem?_eq_getElem hi]; rfl), d i _ y (List.getElem?_eq_getElem hi) hy⟩
theorem segNext_ok {r b : Nat} {g : Seg} {Q : Int → AH → Prop} (h : SegAt tag σ r b g) (hb : g.next < 4611686018427387904) (hQ : Q (g.next : Nat) σ) : c_wal_segment_next B ro (some ⟨b, 0, none⟩) σ Q := by
  refine wal_segment_next_ok fun hs => ?_
  unfold f_wal_segment_next
  obtain ⟨s, hl, hc, _⟩ := h.at hs
  refine ⟨_, rfl, _, rfl, _, hc 1 _ rfl, s, hc 2 _ rfl, ?_⟩
  unfold Seg.next at hb hQ
  rw [hl, w64_eq (by omega) (by omega)]
  rw [show ((g.first : Int) + (g.recs.length : Int)) = ((g.first + g.recs.length : Nat) : Int) by omega]
  exact hQ
/-- the segments are in order, and not too many -/
structure LogIn (n f : Nat) (gs : List Seg) : Prop where
  chain : Chain n f gs
  num : n + gs.length ≤ 1003
  idx : f + (recsOf gs).length ≤ 1000
  pos : 1 ≤ n
theorem LogIn.next {n f i : Nat} {gs : List Seg} {g : Seg} (h : LogIn n f gs) (hg : gs[i]? = some g) : g.next ≤ 1000 := by
  have := (chain_get h.chain hg).2.2.1
  have := h.idx
  unfold Seg.next; omega
theorem logNext_ok {r T Lb safe n f : Nat} {limit : Int} {s : Sl} {xs : List (Nat × Seg)} {Q : Int → AH → Prop} (h : LogAt tag σ r T Lb limit safe s xs) (hI : LogIn n f (xs.map (·.2))) (hQ : Q (nextOf (xs.map (·.2)) : Nat) σ) : c_wal_Log_Next B ro (some ⟨Lb, 0, none⟩) σ Q := by
  refine wal_Log_Next_ok fun hs => ?_
  unfold f_wal_Log_Next
  have hl := h.len
  have hn := hI.num
  rw [List.length_map] at hn
  refine ⟨_, rfl, s, h.at hs 3 _ rfl, ?_⟩
  by_cases c : xs.length = 0
  · rw [if_neg (by omega)]
    have : xs = [] := List.eq_nil_of_length_eq_zero c
    rw [this] at hQ; exact hQ
  rw [if_pos (by omega)]
  have e1 : IntKind.i64.wrap ((s.len : Int) - 1) = ((xs.length - 1 : Nat) : Int) := by rw [w64_eq (by omega) (by omega)]; omega
  have hx := List.getElem?_eq_getElem (l := xs) (i := xs.length - 1) (by omega)
  generalize xs[xs.length - 1] = x at hx
  obtain ⟨p, hp, hc⟩ := h.seg hs hx
  refine ⟨_, rfl, s, h.at hs 3 _ rfl, p, hp, by rw [e1]; omega, by rw [e1]; omega, _, by rw [e1, Int.toNat_natCast]; exact hc, ?_⟩
  have hg : (xs.map (·.2))[xs.length - 1]? = some x.2 := by rw [List.getElem?_map, hx]; rfl
  have hnx := hI.next hg
  refine segNext_ok (h.node x (List.mem_of_getElem? hx)) (by omega) ?_
  have : nextOf (xs.map (·.2)) = x.2.next := by
    unfold nextOf
    rw [List.getLast?_eq_getElem?, List.length_map, hg]
  rw [this] at hQ; exact hQ
theorem logSafe_ok {r T Lb safe : Nat} {limit : Int} {s : Sl} {xs : List (Nat × Seg)} {Q : Int → AH → Prop} (h : LogAt tag σ r T Lb limit safe s xs) (hQ : Q (safe : Nat) σ) : c_wal_Log_Safe B ro (some ⟨Lb, 0, none⟩) σ Q := by
  refine wal_Log_Safe_ok fun hs => ?_
  unfold f_wal_Log_Safe
  exact ⟨_, rfl, _, h.at hs 4 _ rfl, hQ⟩
def firstOf (gs : List Seg) : Nat := match gs with | g :: _ => g.first | [] => 0
theorem logFirst_ok {r T Lb safe : Nat} {limit : Int} {s : Sl} {xs : List (Nat × Seg)} {Q : Int → AH → Prop} (h : LogAt tag σ r T Lb limit safe s xs) (hQ : Q (firstOf (xs.map (·.2)) : Nat) σ) : c_wal_Log_First B ro (some ⟨Lb, 0, none⟩) σ Q := by
  refine wal_Log_First_ok fun hs => ?_
  unfold f_wal_Log_First
  have hl := h.len
  refine ⟨_, rfl, s, h.at hs 3 _ rfl, ?_⟩
  cases xs with
  | nil => rw [if_pos (by rw [hl]; rfl)]; exact hQ
  | cons x r' =>
    rw [if_neg (by rw [hl]; simp; omega)]
    obtain ⟨p, hp, hc⟩ := h.seg hs (i := 0) (x := x) rfl
    obtain ⟨s2, _, hc2, _⟩ := (h.node x (by simp)).at hs
    exact ⟨_, rfl, s, h.at hs 3 _ rfl, p, hp, by decide, by rw [hl]; simp <;> omega, _, hc, _, rfl, _, hc2 1 _ rfl, hQ⟩
theorem chain_find : ∀ {gs : List Seg} {n f i : Nat}, Chain n f gs → f ≤ i → i < f + (recsOf gs).length → ∃ (k : Nat) (g : Seg), gs[k]? = some g ∧ g.first ≤ i ∧ i < g.next := by
  intro gs
  induction gs with
  | nil => intro n f i _ h1 h2; unfold recsOf at h2; simp at h2; omega
  | cons g r ih =>
    intro n f i h h1 h2
    obtain ⟨_, e, h4⟩ := h
    have hf : recsOf (g :: r) = g.recs ++ recsOf r := by unfold recsOf; rw [List.flatMap_cons]
    rw [hf, List.length_append] at h2
    by_cases c : i < g.next
    · exact ⟨0, g, rfl, by omega, c⟩
    · unfold Seg.next at c h4
      obtain ⟨k, g', hk, x, y⟩ := ih h4 (i := i) (by omega) (by omega)
      exact ⟨k + 1, g', hk, x, y⟩
theorem get_ok {r T Lb safe n f : Nat} {limit i : Int} {s : Sl} {xs : List (Nat × Seg)} {Q : Sl → Int → AH → Prop} (h : LogAt tag σ r T Lb limit safe s xs) (hI : LogIn n f (xs.map (·.2))) (hrl : ∀ d ∈ recsOf (xs.map (·.2)), d.length ≤ 65536)
    (hno : (i < f ∨ ((f + (recsOf (xs.map (·.2))).length : Nat) : Int) ≤ i) → Q ⟨none, 0, 0⟩ 41 σ)
    (hyes : ∀ (j : Nat) (d : Str), i = ((f + j : Nat) : Int) → (recsOf (xs.map (·.2)))[j]? = some d → ∀ s' tag' σ', (∀ R, Step R ro tag σ tag' σ') → Row tag' σ' 6 5 s' (d.map vU) → Q s' 0 σ') : c_wal_Log_Get B ro (some ⟨Lb, 0, none⟩) i σ Q := by
  refine wal_Log_Get_ok fun hs => ?_
  unfold f_wal_Log_Get
  have hl := h.len
  have hn := hI.num
  have hid := hI.idx
  rw [List.length_map] at hn
  refine ⟨_, rfl, s, h.at hs 3 _ rfl, ?_⟩
  suffices ∀ m j, j + m = xs.length → (∀ (k : Nat) (x : Nat × Seg), k < j → xs[k]? = some x → ¬ ((x.2.first : Int) ≤ i ∧ i < (x.2.next : Int))) → lfpD (l4_wal_Log_Get B ro i s Q) (j : Int) σ from this _ 0 (Nat.zero_add _) (fun k x h => by omega)
  intro m
  induction m with
  | zero =>
    intro j hj hall
    refine lfpD.intro ?_
    unfold l4_wal_Log_Get
    rw [if_neg (by omega)]
    unfold j1_wal_Log_Get
    refine hno ?_
    refine Classical.byContradiction fun hn => ?_
    simp only [not_or, Int.not_lt, Int.not_le] at hn
    obtain ⟨a, rfl⟩ := Int.eq_ofNat_of_zero_le (a := i) (by omega)
    obtain ⟨k, g, hk, h1, h2⟩ := chain_find hI.chain (i := a) (by omega) (by omega)
    rw [List.getElem?_map] at hk
    obtain ⟨x, hx, rfl⟩ := Option.map_eq_some_iff.1 hk
    exact hall k x (by have := (List.getElem?_eq_some_iff.1 hx).1; omega) hx ⟨by omega, by omega⟩
  | succ m ih =>
    intro j hj hall
    have hjx : j < xs.length := by omega
    have hx := List.getElem?_eq_getElem hjx
    generalize xs[j] = x at hx
    have hg : (xs.map (·.2))[j]? = some x.2 := by rw [List.getElem?_map, hx]; rfl
    have hnx := hI.next hg
    obtain ⟨_, c1, c2, c3⟩ := chain_get hI.chain hg
    obtain ⟨p, hp, hc⟩ := h.seg hs hx
    obtain ⟨s2, hl2, hc2, hrec⟩ := (h.node x (List.mem_of_getElem? hx)).at hs
    refine lfpD.intro ?_
    generalize hY : lfpD (l4_wal_Log_Get B ro i s Q) = Y
    unfold l4_wal_Log_Get
    rw [if_pos (by omega)]
    refine ⟨p, hp, by omega, by omega, _, by rw [Int.toNat_natCast]; exact hc, _, rfl, _, hc2 1 _ rfl, ?_⟩
    have go : ¬ ((x.2.first : Int) ≤ i ∧ i < (x.2.next : Int)) → j10_wal_Log_Get B ro i s (j : Int) (some ⟨x.1, 0, none⟩) Q Y false σ := fun hn => by
      unfold j10_wal_Log_Get
      rw [if_neg (by simp), Pa.inc j (by omega), ← hY]
      refine ih (j + 1) (by omega) fun k y hk hy => ?_
      rcases Nat.lt_or_ge k j with h1 | h1
      · exact hall k y h1 hy
      · obtain rfl : k = j := by omega
        rw [hx] at hy; cases hy; exact hn
    by_cases d1 : (x.2.first : Int) ≤ i
    · rw [if_pos d1]
      refine segNext_ok (h.node x (List.mem_of_getElem? hx)) (by omega) ?_
      by_cases d2 : i < (x.2.next : Int)
      · rw [decide_eq_true d2]
        unfold j10_wal_Log_Get
        rw [if_pos rfl]
        obtain ⟨a, rfl⟩ := Int.eq_ofNat_of_zero_le (a := i) (by omega)
        unfold Seg.next at d2 hnx
        have e1 : IntKind.i64.wrap ((a : Int) - (x.2.first : Int)) = ((a - x.2.first : Nat) : Int) := by rw [w64_eq (by omega) (by omega)]; omega
        have hk : a - x.2.first < x.2.recs.length := by omega
        obtain ⟨p2, y, hp2, hcy, hry⟩ := hrec (a - x.2.first) _ (List.getElem?_eq_getElem hk)
        have hrr := c3 (a - x.2.first) hk
        rw [List.getElem?_eq_getElem hk] at hrr
        refine ⟨_, rfl, _, rfl, s2, hc2 2 _ rfl, _, hc2 1 _ rfl, p2, hp2, by rw [e1]; omega, by rw [e1]; omega, y, by rw [e1, Int.toNat_natCast]; exact hcy, ?_⟩
        have hdl := hrl _ (List.mem_of_getElem? hrr)
        refine Zt.clone_ok (tag := tag) (hry.read hs) hs (by rw [List.length_map]; omega) (by simp [storable]) fun s3 tag3 σ3 st3 r3 => ?_
        exact hyes _ _ (by omega) hrr s3 tag3 σ3 st3 r3
      · rw [decide_eq_false d2]; exact go (fun e => d2 e.2)
    · rw [if_neg d1]; exact go (fun e => d1 e.1)
end Go.Proofs.YtfobjidchipdaaaGreatDoor.Wl

/- A region that draws its order, of two parts: what is lent to the first part is owned again in the second; every operation of the second waits for all of the first. Generic over any program. -/
namespace Go.Proofs.YtfobjidchipdaaaGreatDoor.SL
open Go
set_option linter.unusedVariables false
set_option linter.unusedSimpArgs false
section
variable {P : Program} {B : World} {ro : AH} {N : Nat} {ops : Array Oper}
theorem drawn2_sound {cl : Nat → Nat} {anc : List (Nat × Nat)} (ha : ancOk ops anc = true) (hlt : ∀ i, ∀ e ∈ edgesOf ops i, e < i) {Q : Exit → Fr → AH → Prop} (hK : Closed (Q .normal)) {φ ψ : AH}
    (hp : ∀ b o, ψ b = some o → φ b = none ∧ ro b = none) (l2 : List Nat) :
    ∀ (m : Nat) (l1 : List Nat) (listed : Array Bool) {fr : Fr} {σ : AH} {a : Act} {w : World}, l1.length = m → listed.size = ops.size → chk ops cl anc (l1 ++ l2) = true → (∀ j ∈ l2, ∀ i ∈ l1, i ∈ edgesOf ops j ∨ (i, j) ∈ anc) →
      (∀ i, i < ops.size → (listed.getD i true = false ↔ i ∈ l1 ++ l2)) → (∀ i, i < ops.size → i ∉ l1 ++ l2 → ∀ e ∈ edgesOf ops i, e ∉ l1 ++ l2) →
      DOps P B (join ro ψ) N ops cl (fun fr σ => ∃ fr', FrEq fr' fr ∧ (Disj ψ σ → DOps P B ro N ops cl (Q .normal) l2 fr' (join ψ σ))) l1 fr σ → Own B (join ro ψ) φ σ w → Fits N fr a → wpAny P .any ops (lift B ro N φ Q) (m + l2.length) listed a w := by
  have hK1 : Closed (fun fr σ => ∃ fr', FrEq fr' fr ∧ (Disj ψ σ → DOps P B ro N ops cl (Q .normal) l2 fr' (join ψ σ))) := fun fr fr' σ he ⟨fr2, h1, h2⟩ => ⟨fr2, fun i => (h1 i).trans (he i), h2⟩
  intro m
  induction m with
  | zero =>
    intro l1 listed fr σ a w hn hsz hc haft hli hcl h ho hf
    obtain rfl : l1 = [] := List.length_eq_zero_iff.1 hn
    obtain ⟨fr', he, hd⟩ := h
    obtain ⟨g1, g2⟩ := ho.unlend hp
    rw [Nat.zero_add]
    exact drawn_sound ha hlt hK l2.length l2 listed rfl hsz hc hli hcl (hd g2) g1 ⟨hf.size, hf.defers, fun i v hi => hf.has i v (by rw [← he i]; exact hi)⟩
  | succ m ih =>
    intro l1 listed fr σ a w hn hsz hc haft hli hcl h ho hf
    rw [show m + 1 + l2.length = (m + l2.length) + 1 by omega]
    obtain ⟨l, hl⟩ : ∃ l, l = l1 ++ l2 := ⟨_, rfl⟩
    rw [← hl] at hc hli hcl
    have hlist : ∀ e, e < ops.size → e ∉ l → listed.getD e false = true := by
      intro e he hne
      have h1 : ¬ listed.getD e true = false := fun q => hne ((hli e he).1 q)
      have hlt' : e < listed.size := by omega
      simp only [Array.getD_eq_getD_getElem?, Array.getElem?_eq_getElem hlt', Option.getD_some] at h1 ⊢
      simpa using h1
    refine ⟨?_, ?_⟩
    · intro hr
      exfalso
      cases l with
      | nil => have := congrArg List.length hl; simp at this; omega
      | cons x rest =>
        have hx := chk_lt hc x (List.mem_cons_self ..)
        have : x ∈ Region.ready .any ops listed := by
          refine ready_iff.2 ⟨hx.1, (hli x hx.1).2 (List.mem_cons_self ..), ops[x], by simp [hx.1], ?_⟩
          intro e he
          have he' : e ∈ edgesOf ops x := by simp [edgesOf, hx.1]; exact he
          simp only [chk, Bool.and_eq_true] at hc
          have h1 := List.all_eq_true.1 hc.1.1.1.1 e he'
          simp only [Bool.and_eq_true, decide_eq_true_eq, Bool.not_eq_true', List.contains_iff_mem, ← Bool.not_eq_true] at h1
          exact hlist e (by have := h1.1; omega) h1.2
        rw [hr] at this; cases this
    · intro i hi
      obtain ⟨h1, h2, o, hoi, h3⟩ := ready_iff.1 hi
      have hil := (hli i h1).1 h2
      have hedge0 : ∀ e ∈ edgesOf ops i, e ∉ l := by
        intro e he hm
        have he2 : e ∈ bound o := by simpa [edgesOf, hoi] using he
        have h4 := h3 e he2
        have hlt' := (chk_lt hc e hm).1
        have := (hli e hlt').2 hm
        have hs : e < listed.size := by omega
        simp only [Array.getD_eq_getD_getElem?, Array.getElem?_eq_getElem hs, Option.getD_some] at this h4
        rw [this] at h4; cases h4
      have hi1 : i ∈ l1 := by
        rw [hl] at hil
        rcases List.mem_append.1 hil with hm2 | hm2
        · exact hm2
        · exfalso
          cases l1 with
          | nil => cases hn
          | cons x r =>
            have hxl : x ∈ l := by rw [hl]; exact List.mem_append_left _ (List.mem_cons_self ..)
            rcases haft i hm2 x (List.mem_cons_self ..) with h5 | h5
            · exact hedge0 x h5 hxl
            · have hcl' : ∀ j, (j < ops.size → j ∉ l) → ∀ e ∈ edgesOf ops j, (e < ops.size → e ∉ l) := by
                intro j hj e he hes
                by_cases hjs : j < ops.size
                · exact hcl j hjs (hj hjs) e he
                · simp [edgesOf, Array.getElem?_eq_none (Nat.le_of_not_lt hjs)] at he
              exact absurd hxl (anc_listed (L := fun j => j < ops.size → j ∉ l) ha hlt hcl' x i (fun e he _ => hedge0 e he) h5 (chk_lt hc x hxl).1)
      obtain ⟨pre, post1, rfl⟩ := List.append_of_mem hi1
      obtain ⟨post, hpost⟩ : ∃ post, post = post1 ++ l2 := ⟨_, rfl⟩
      have hl' : l = pre ++ i :: post := by rw [hl, hpost]; simp
      subst hl'
      have hedge : ∀ e ∈ edgesOf ops i, e ∉ pre ++ i :: post := by
        intro e he hm
        have he2 : e ∈ bound o := by simpa [edgesOf, hoi] using he
        have h4 := h3 e he2
        have hlt' := (chk_lt hc e hm).1
        have := (hli e hlt').2 hm
        have hs : e < listed.size := by omega
        simp only [Array.getD_eq_getD_getElem?, Array.getElem?_eq_getElem hs, Option.getD_some] at this h4
        rw [this] at h4; cases h4
      -- all that stand ahead of i may be passed
      have hpass : ∀ x ∈ pre, swapOk ops cl x i = true := by
        have gen : ∀ (p : List Nat), chk ops cl anc (p ++ i :: post) = true → ∀ x ∈ p, swapOk ops cl x i = true ∨ x ∈ edgesOf ops i ∨ (x, i) ∈ anc := by
          intro p
          induction p with
          | nil => intro _ x hx; cases hx
          | cons y p ihp =>
            intro hc x hx
            simp only [List.cons_append, chk, Bool.and_eq_true] at hc
            rcases List.mem_cons.1 hx with rfl | hx
            · have := List.all_eq_true.1 hc.1.2 i (by simp)
              simp only [Bool.or_eq_true, List.contains_iff_mem] at this
              rcases this with (h | h) | h
              · exact .inl h
              · exact .inr (.inl h)
              · exact .inr (.inr h)
            · exact ihp hc.2 x hx
        intro x hx
        have hxm : x ∈ pre ++ i :: post := List.mem_append_left _ hx
        rcases gen pre hc x hx with h | h | h
        · exact h
        · exact absurd hxm (hedge x h)
        · have hcl' : ∀ j, (j < ops.size → j ∉ pre ++ i :: post) → ∀ e ∈ edgesOf ops j, (e < ops.size → e ∉ pre ++ i :: post) := by
            intro j hj e he hes
            by_cases hjs : j < ops.size
            · exact hcl j hjs (hj hjs) e he
            · simp [edgesOf, Array.getElem?_eq_none (Nat.le_of_not_lt hjs)] at he
          exact absurd hxm (anc_listed (L := fun j => j < ops.size → j ∉ pre ++ i :: post) ha hlt hcl' x i (fun e he _ => hedge e he) h (chk_lt hc x hxm).1)
      have hd := extract (P := P) (B := B) (N := N) hK1 post1 pre hpass ⟨φ, w, ho⟩ h
      -- the list that is left
      have hnd : i ∉ pre ++ post := by
        have : (pre ++ i :: post).Nodup := by
          have gen : ∀ l : List Nat, chk ops cl anc l = true → l.Nodup := by
            intro l
            induction l with
            | nil => intro _; exact List.nodup_nil
            | cons y r ihr =>
              intro hc
              simp only [chk, Bool.and_eq_true, Bool.not_eq_true'] at hc
              refine List.nodup_cons.2 ⟨?_, ihr hc.2⟩
              have := hc.1.1.1.2
              intro hm; rw [List.contains_iff_mem.2 hm] at this; cases this
          exact gen _ hc
        have := (List.perm_middle (a := i) (l₁ := pre) (l₂ := post)).nodup_iff.1 this
        exact (List.nodup_cons.1 this).1
      have hc' : chk ops cl anc (pre ++ post) = true := by
        have gen : ∀ (p : List Nat), chk ops cl anc (p ++ i :: post) = true → chk ops cl anc (p ++ post) = true := by
          intro p
          induction p with
          | nil => intro hc; simp only [List.nil_append, chk, Bool.and_eq_true] at hc; exact hc.2
          | cons y p ihp =>
            intro hc
            simp only [List.cons_append, chk, Bool.and_eq_true] at hc ⊢
            obtain ⟨⟨⟨⟨c1, c2⟩, c3⟩, c4⟩, c5⟩ := hc
            refine ⟨⟨⟨⟨?_, ?_⟩, c3⟩, ?_⟩, ihp c5⟩
            · refine List.all_eq_true.2 fun e he => ?_
              have := List.all_eq_true.1 c1 e he
              simp only [Bool.and_eq_true, Bool.not_eq_true', ← Bool.not_eq_true, List.contains_iff_mem] at this ⊢
              refine ⟨this.1, fun hm => this.2 ?_⟩
              simp only [List.mem_cons, List.mem_append] at hm ⊢
              rcases hm with h | h | h
              · exact .inl h
              · exact .inr (.inl h)
              · exact .inr (.inr (.inr h))
            · simp only [Bool.not_eq_true', ← Bool.not_eq_true, List.contains_iff_mem] at c2 ⊢
              intro hm; apply c2
              simp only [List.mem_append, List.mem_cons] at hm ⊢
              exact hm.imp id .inr
            · refine List.all_eq_true.2 fun j hj => List.all_eq_true.1 c4 j ?_
              simp only [List.mem_append, List.mem_cons] at hj ⊢
              exact hj.imp id .inr
        exact gen pre hc
      have hmem : ∀ j, j ∈ pre ++ post ↔ j ∈ pre ++ i :: post ∧ j ≠ i := by
        intro j
        simp only [List.mem_append, List.mem_cons]
        constructor
        · intro (hh : j ∈ pre ∨ j ∈ post)
          refine ⟨hh.imp id .inr, fun e => ?_⟩
          subst e; exact hnd (List.mem_append.2 hh)
        · rintro ⟨h | h | h, hne⟩
          · exact .inl h
          · exact absurd h hne
          · exact .inr h
      have hlen : (pre ++ post1).length = m := by simp at hn ⊢; omega
      have hset : ∀ j, j < ops.size → ((listed.setIfInBounds i true).getD j true = false ↔ j ∈ pre ++ post) := by
        intro j hj
        rw [hmem]
        by_cases e : j = i
        · subst e
          have : j < listed.size := by omega
          simp [Array.getD_eq_getD_getElem?, this]
        · rw [drawn_sound.Region_getD_set e]
          constructor
          · intro h; exact ⟨(hli j hj).1 h, e⟩
          · intro h; exact (hli j hj).2 h.1
      have hcl2 : ∀ j, j < ops.size → j ∉ pre ++ post → ∀ e ∈ edgesOf ops j, e ∉ pre ++ post := by
        intro j hj hjn e he hm
        have hm' := ((hmem e).1 hm).1
        by_cases e' : j = i
        · subst e'; exact hedge e he hm'
        · exact hcl j hj (fun hh => hjn ((hmem j).2 ⟨hh, e'⟩)) e he hm'
      have epp : (pre ++ post1) ++ l2 = pre ++ post := by rw [hpost, List.append_assoc]
      have kont : ∀ fr σ a w, DOps P B (join ro ψ) N ops cl (fun fr σ => ∃ fr', FrEq fr' fr ∧ (Disj ψ σ → DOps P B ro N ops cl (Q .normal) l2 fr' (join ψ σ))) (pre ++ post1) fr σ → Own B (join ro ψ) φ σ w → Fits N fr a → wpAny P .any ops (lift B ro N φ Q) (m + l2.length) (listed.setIfInBounds i true) a w :=
        fun fr σ a w hk ho hf => ih (pre ++ post1) _ hlen (by simpa using hsz) (by rw [epp]; exact hc') (fun j hj x hx => haft j hj x (by simp only [List.mem_append, List.mem_cons] at hx ⊢; exact hx.imp id .inr)) (by rw [epp]; exact hset) (by rw [epp]; exact hcl2) hk ho hf
      exact drawn_sound.D1.sound hoi hd ho hf kont
def after2 (ops : Array Oper) (anc : List (Nat × Nat)) (l1 l2 : List Nat) : Bool := l2.all fun j => l1.all fun i => (edgesOf ops j).contains i || anc.contains (i, j)
theorem AW.drawn2 {id : Nat} {Q : Exit → Fr → AH → Prop} {fr : Fr} {σ : AH} {K : AH → AH → Prop} (cl : Nat → Nat) (anc : List (Nat × Nat)) (l1 l2 : List Nat) (hm : P.follows .mixedOrders = true) (hl : lent σ K)
    (hc : (chk ops cl anc (l1 ++ l2) && ancOk ops anc && full ops.size (l1 ++ l2) && ((l1 ++ l2).length == ops.size) && after2 ops anc l1 l2) = true)
    (h : ∀ ψ τ, K ψ τ → DOps P B (join ro ψ) N ops cl (fun fr σ => ∃ fr', FrEq fr' fr ∧ (Disj ψ σ → DOps P B ro N ops cl (fun fr σ => ∃ fr', FrEq fr' fr ∧ Q .normal fr' σ) l2 fr' (join ψ σ))) l1 fr τ) : AW P B ro N (.region id ops true) Q fr σ := by
  obtain ⟨ψ, τ, hd, rfl, hk⟩ := hl
  have h := h ψ τ hk
  simp only [Bool.and_eq_true, beq_iff_eq] at hc
  obtain ⟨⟨⟨⟨c1, c2⟩, c3⟩, c4⟩, c5⟩ := hc
  intro φ w a ho hf
  refine wp_region_any hm ?_
  have hp : ∀ b o, ψ b = some o → φ b = none ∧ ro b = none := fun b o hs => (ho.own b o (join_left hs)).2
  have hall : ∀ i, i < ops.size → i ∈ l1 ++ l2 := fun i hi => List.contains_iff_mem.1 (List.all_eq_true.1 c3 i (List.mem_range.2 hi))
  have hlt : ∀ i, ∀ e ∈ edgesOf ops i, e < i := by
    intro i e he
    by_cases hi : i < ops.size
    · exact (chk_lt c1 i (hall i hi)).2 e he
    · simp [edgesOf, Array.getElem?_eq_none (Nat.le_of_not_lt hi)] at he
  have hw : Own B (join ro ψ) φ τ { w with drawn := w.drawn + 1 } := (ho.lend hd).drawn _
  have haft : ∀ j ∈ l2, ∀ i ∈ l1, i ∈ edgesOf ops j ∨ (i, j) ∈ anc := fun j hj i hi => by
    have := List.all_eq_true.1 (List.all_eq_true.1 c5 j hj) i hi
    simpa using this
  have := drawn2_sound (P := P) (B := B) (ro := ro) (N := N) (ops := ops) (cl := cl) (anc := anc) c2 hlt
    (Q := fun e fr σ => e = .normal ∧ ∃ fr', FrEq fr' fr ∧ Q .normal fr' σ)
    (fun fr fr' σ he ⟨h0, fr2, h1, h2⟩ => ⟨h0, fr2, fun i => (h1 i).trans (he i), h2⟩) (φ := φ) (ψ := ψ) hp l2 l1.length l1 (Array.replicate ops.size false)
    (w := { w with drawn := w.drawn + 1 }) (a := a) (fr := fr) (σ := τ) rfl (by simp) c1 haft
    (fun i hi => ⟨fun _ => hall i hi, fun _ => by simp [hi]⟩) (fun i hi hn => absurd (hall i hi) hn) ?_ hw hf
  · have hlen : l1.length + l2.length = ops.size := by rw [← List.length_append]; exact c4
    rw [hlen] at this
    refine AW.drawn.wpAny_post ?_ _ _ this
    rintro e a' w' ⟨fr', σ', ⟨rfl, fr2, he, hq⟩, ho', hf'⟩
    exact ⟨fr2, _, hq, ho', ⟨hf'.size, hf'.defers, fun i v hi => hf'.has i v (by rw [← he i]; exact hi)⟩⟩
  · refine AW.drawn.DOps_post ?_ l1 h
    rintro fr σ ⟨fr', h1, h2⟩
    refine ⟨fr', h1, fun hd => AW.drawn.DOps_post ?_ l2 (h2 hd)⟩
    intro fr σ hk; exact ⟨rfl, hk⟩
end
end Go.Proofs.YtfobjidchipdaaaGreatDoor.SL

/- wal.Log.lay as a predicate transformer: printed by gen.py but for the region whose store goes into the block that it read ahead of a call (a drawn region of two parts). -/
namespace Go.Proofs.YtfobjidchipdaaaGreatDoor.G
open Go Go.Proofs.YtfobjidchipdaaaGreatDoor.SL
set_option linter.unusedVariables false
set_option linter.unusedSimpArgs false
def f_lay2 (B : World) (ro : AH) (a0 : Option Addr) (a1 : Option Addr) (a2 : Sl) (a3 : Sl) (σ : AH) (Q : Int → AH → Prop) : Prop :=
 lent σ fun ψ σ =>
  ∃ p11_1 : Addr, a0 = some p11_1 ∧
  ∃ (x14_2 : Option Addr), acell (join ro ψ) (fun _ => none) p11_1 = some (.pointer x14_2) ∧
  ∃ p16_3 : Addr, a0 = some p16_3 ∧
  ∃ p20_4 : Addr, a1 = some p20_4 ∧
  ∃ (x18_5a : Option Addr) (x18_5b : ByteArray), cellsAt (join ro ψ) σ p16_3 0 [.pointer x18_5a, .string x18_5b] ∧
  ∃ (x22_6 : Int), acell (join ro ψ) σ p20_4 = some (.int .i64 x22_6) ∧
  c_wal_place_file B (join ro ψ) x18_5a x18_5b x22_6 σ fun x23_7 σ =>
  c_disk_Disk_Append B (join ro ψ) x14_2 x23_7 a2 σ fun x25_8 σ =>
  (Disj ψ σ → (fun σ => 
   if ¬ (x25_8 = 0) then
    Q x25_8 σ
   else
   ∃ p30_9 : Addr, a1 = some p30_9 ∧
   ∃ (x32_10 : Int), acell ro σ (p30_9.add 3) = some (.int .i64 x32_10) ∧
   ∃ p36_11 : Addr, a1 = some p36_11 ∧
   stN (p36_11.add 3) (fun σ =>
    lent σ fun ψ σ =>
     ∃ p40_12 : Addr, a1 = some p40_12 ∧
     ∃ (x42_13 : Sl), acell (join ro ψ) (fun _ => none) (p40_12.add 2) = some (Sl.v x42_13) ∧
     c_bytes_Clone B (join ro ψ) a3 σ fun x44_14 σ =>
     nw (join ro ψ) σ (.cells #[Sl.v x44_14] 22) fun x45_15 σ =>
     awp Tryz.prog (join ro ψ) (Builtin.append_ #[44, 44] 44 #[Sl.v x42_13, Sl.v (⟨some ⟨x45_15, 0, none⟩, 1, 1⟩ : Sl)]) (fun v σ => ∃ (x46_16 : Sl), v = Sl.v x46_16 ∧
      (Disj ψ σ → (fun σ => 
       ∃ p47_17 : Addr, a1 = some p47_17 ∧
       stN (p47_17.add 2) (fun σ =>
        Q 0 σ) [Sl.v x46_16] 0 σ) (join ψ σ))) σ) [.int .i64 (IntKind.i64.wrap (x32_10 + (a2.len : Int)))] 0 σ) (join ψ σ))

set_option maxRecDepth 100000 in
set_option maxHeartbeats 4000000 in
theorem lay2_ok {B : World} {ro : AH} {a0 : Option Addr} {a1 : Option Addr} {a2 : Sl} {a3 : Sl} {σ : AH} {Q : Int → AH → Prop} (h : Sep ro σ → f_lay2 B ro a0 a1 a2 a3 σ Q) : c_wal_Log_lay B ro a0 a1 a2 a3 σ Q := by
  refine ACalls.of_sep fun hsep => ?_
  replace h := h hsep
  refine ACalls.of_body (args := [.pointer a0, .pointer a1, Sl.v a2, Sl.v a3]) Tryz.func99 rfl (by rw [Tryz.ntmps99]; simp) ?_
  rw [Tryz.ntmps99]
  unfold f_lay2 at h
  refine AW.seq ?_
  refine AW.reg ?_
  refine Lp (V_asg rfl rfl) rfl rfl ?_
  refine Lnil ?_
  refine thenN ?_
  refine AW.seq ?_
  refine AW.seq ?_
  refine AW.drawnL (fun i => ([0, 0, 0, 0, 0, 0, 0, 0, 3, 0, 0, 0, 3, 2, 0, 2, 0] : List Nat).getD i 2) [(8, 13), (8, 15), (12, 13), (12, 15)] [0, 1, 2, 3, 4, 5, 6, 7, 9, 10, 11, 14, 8, 12, 13, 15, 16] Tryz.mixed h (by decide +kernel) ?_
  clear h
  intro ψ σ h
  refine Dp rfl rfl rfl rfl (V_move rfl rfl) ?_
  obtain ⟨p11_1, hc, h⟩ := h
  refine Dp rfl rfl rfl rfl (V_nil rfl (by rw [← hc]; rfl)) ?_
  refine Dp rfl rfl rfl rfl (V_fld rfl Tryz.underlying131 rfl ty128 (by decide) rfl) ?_
  refine Dp rfl rfl rfl rfl (V_fld rfl Tryz.underlying128 rfl ty26 (by decide) rfl) ?_
  obtain ⟨x14_2, hc, h⟩ := h
  refine Dp rfl rfl rfl rfl (V_ld rfl Tryz.underlying26 rfl rfl hc) ?_
  refine Dp rfl rfl rfl rfl (V_move rfl rfl) ?_
  obtain ⟨p16_3, hc, h⟩ := h
  refine Dp rfl rfl rfl rfl (V_nil rfl (by rw [← hc]; rfl)) ?_
  refine Dp rfl rfl rfl rfl (V_fld rfl Tryz.underlying131 rfl ty128 (by decide) rfl) ?_
  refine Dp rfl rfl rfl rfl (V_move rfl rfl) ?_
  obtain ⟨p20_4, hc, h⟩ := h
  refine Dp rfl rfl rfl rfl (V_nil rfl (by rw [← hc]; rfl)) ?_
  refine Dp rfl rfl rfl rfl (V_fld rfl Tryz.underlying138 rfl ty3 (by decide) rfl) ?_
  refine Dp rfl rfl rfl rfl (V_move rfl rfl) ?_
  obtain ⟨x18_5a, x18_5b, hc, h⟩ := h
  refine Dr rfl rfl rfl rfl (R_lda rfl Tryz.underlying128 rfl ty128 rfl hc) ?_
  obtain ⟨x22_6, hc, h⟩ := h
  refine Dr rfl rfl rfl rfl (R_ld rfl Tryz.underlying3 rfl rfl hc) ?_
  refine Dg rfl rfl rfl rfl (X_call rfl Tryz.func70 rfl rfl rfl (ACalls.mono h ?_))
  rintro v σ ⟨x23_7, rfl, h⟩
  refine Dg rfl rfl rfl rfl (X_call rfl Tryz.func43 rfl rfl rfl (ACalls.mono h ?_))
  rintro v σ ⟨x25_8, rfl, h⟩
  refine Dp rfl rfl rfl rfl (V_asg rfl rfl) ?_
  refine ⟨_, FrEq.refl _, fun hdj => ?_⟩
  replace h := h hdj
  refine thenN ?_
  refine AW.seq ?_
  refine AW.reg ?_
  refine Lp (V_move rfl rfl) rfl rfl ?_
  refine Lp (V_neq rfl rfl rfl) rfl rfl ?_
  refine Lnil ?_
  refine thenN ?_
  refine AW.iff rfl (bnot_iff decide_eq_true_iff) h (fun h => ?_) (fun h => ?_)
  · refine AW.seq ?_
    refine AW.reg ?_
    refine Lp (V_move rfl rfl) rfl rfl ?_
    refine Lp (V_asg rfl rfl) rfl rfl ?_
    refine Lnil ?_
    refine thenN ?_
    refine AW.ret ?_
    refine thenR ?_
    exact bR1 Tryz.results99 rfl ⟨_, rfl, h⟩
  refine AW.skip ?_
  refine thenN ?_
  refine AW.seq ?_
  refine AW.reg ?_
  refine Lp (V_move rfl rfl) rfl rfl ?_
  obtain ⟨p30_9, hc, h⟩ := h
  refine Lp (V_nil rfl (by rw [← hc]; rfl)) rfl rfl ?_
  refine Lp (V_fld rfl Tryz.underlying138 rfl ty3 (by decide) rfl) rfl rfl ?_
  obtain ⟨x32_10, hc, h⟩ := h
  refine Ls rfl rfl (X_ld rfl Tryz.underlying3 rfl rfl hc ?_)
  refine Lp (V_move rfl rfl) rfl rfl ?_
  refine Lp (V_lenL rfl rfl Tryz.underlying22 rfl rfl) rfl rfl ?_
  refine Lp (V_add rfl rfl rfl) rfl rfl ?_
  obtain ⟨p36_11, hc, h⟩ := h
  refine Lp (V_nil rfl (by rw [← hc]; rfl)) rfl rfl ?_
  refine Lp (V_fld rfl Tryz.underlying138 rfl ty3 (by decide) rfl) rfl rfl ?_
  refine Ls rfl rfl (X_st rfl ty3 rfl rfl rfl rfl (stN_mono h fun σ h => ?_))
  refine Lnil ?_
  refine thenN ?_
  refine AW.seq ?_
  refine AW.drawn2 (fun i => ([0, 0, 0, 0, 0, 0, 2, 1, 2, 0, 0, 2] : List Nat).getD i 2) [] [0, 1, 2, 3, 4, 5, 6, 7, 8] [9, 10, 11] Tryz.mixed h (by decide +kernel) ?_
  clear h
  intro ψ σ h
  refine Dp rfl rfl rfl rfl (V_move rfl rfl) ?_
  refine Dp rfl rfl rfl rfl (V_move rfl rfl) ?_
  obtain ⟨p40_12, hc, h⟩ := h
  refine Dp rfl rfl rfl rfl (V_nil rfl (by rw [← hc]; rfl)) ?_
  refine Dp rfl rfl rfl rfl (V_fld rfl Tryz.underlying138 rfl ty44 (by decide) rfl) ?_
  obtain ⟨x42_13, hc, h⟩ := h
  refine Dp rfl rfl rfl rfl (V_ld rfl Tryz.underlying44 rfl rfl hc) ?_
  refine Dp rfl rfl rfl rfl (V_move rfl rfl) ?_
  refine Dg rfl rfl rfl rfl (X_call rfl Tryz.func74 rfl rfl rfl (ACalls.mono h ?_))
  rintro v σ ⟨x44_14, rfl, h⟩
  refine Da rfl rfl rfl rfl (A_bsl (vs := [(0, Sl.v x44_14)]) (cs := #[Sl.v x44_14]) rfl Tryz.underlying44 ty22 (by decide) rfl rfl) fun x45_15 g1 g2 => ?_
  replace h := h x45_15 g1 g2
  refine Dg rfl rfl rfl rfl (X_bi (s := Builtin.append_ #[44, 44] 44 #[Sl.v x42_13, Sl.v (⟨some ⟨x45_15, 0, none⟩, 1, 1⟩ : Sl)]) rfl rfl (fun _ => rfl) (awp_mono _ h ?_))
  rintro v σ ⟨x46_16, rfl, h⟩
  refine ⟨_, FrEq.refl _, fun hdj => ?_⟩
  replace h := h hdj
  obtain ⟨p47_17, hc, h⟩ := h
  refine Dp rfl rfl rfl rfl (V_nil rfl (by rw [← hc]; rfl)) ?_
  refine Dp rfl rfl rfl rfl (V_fld rfl Tryz.underlying138 rfl ty44 (by decide) rfl) ?_
  refine Dg rfl rfl rfl rfl (X_st rfl ty44 rfl rfl rfl rfl (stN_mono h fun σ h => ?_))
  refine ⟨_, FrEq.refl _, ?_⟩
  refine thenN ?_
  refine AW.seq ?_
  refine AW.reg ?_
  refine Lp (V_asg rfl rfl) rfl rfl ?_
  refine Lnil ?_
  refine thenN ?_
  refine AW.ret ?_
  exact bR1 Tryz.results99 rfl ⟨_, rfl, h⟩

end Go.Proofs.YtfobjidchipdaaaGreatDoor.G

/- Logs, the walk: lay. -/
namespace Go.Proofs.YtfobjidchipdaaaGreatDoor.SL
open Go
variable {ro σ σ' : AH} {tag tag' : Nat → Nat}
/-- steps that change roles of one kind alone -/
def StepP (p : Nat → Prop) (ro : AH) (tag : Nat → Nat) (σ : AH) (tag' : Nat → Nat) (σ' : AH) : Prop := ∃ R : List Nat, (∀ x ∈ R, p x) ∧ Step R ro tag σ tag' σ'
theorem Step.p {p : Nat → Prop} {R : List Nat} (h : Step R ro tag σ tag' σ') (hR : ∀ x ∈ R, p x) : StepP p ro tag σ tag' σ' := ⟨R, hR, h⟩
theorem StepS.p {p : Nat → Prop} {C : List Nat} (h : StepS C ro tag σ tag' σ') (hC : ∀ x, x % 64 ∈ C → p x) : StepP p ro tag σ tag' σ' := by
  obtain ⟨R, h1, h2⟩ := h
  exact ⟨R, fun x hx => hC x (h1 x hx), h2⟩
theorem StepP.sep {p : Nat → Prop} (h : StepP p ro tag σ tag' σ') : Sep ro σ' := by obtain ⟨_, _, h⟩ := h; exact h.sep
theorem StepP.refl {p : Nat → Prop} (h : Sep ro σ) : StepP p ro tag σ tag σ := ⟨[], by simp, Step.refl h⟩
theorem StepP.trans {p : Nat → Prop} {tag'' : Nat → Nat} {σ'' : AH} (h : StepP p ro tag σ tag' σ') (k : StepP p ro tag' σ' tag'' σ'') : StepP p ro tag σ tag'' σ'' := by
  obtain ⟨R, h1, h2⟩ := h
  obtain ⟨R', k1, k2⟩ := k
  refine ⟨R ++ R', fun x hx => ?_, (h2.mono fun x hx => List.mem_append_left _ hx).trans (k2.mono fun x hx => List.mem_append_right _ hx)⟩
  rcases List.mem_append.1 hx with hx | hx
  · exact h1 x hx
  · exact k1 x hx
theorem StepP.mono {p q : Nat → Prop} (h : StepP p ro tag σ tag' σ') (hq : ∀ x, p x → q x) : StepP q ro tag σ tag' σ' := by
  obtain ⟨R, h1, h2⟩ := h
  exact ⟨R, fun x hx => hq x (h1 x hx), h2⟩
theorem StepP.s {p : Nat → Prop} {C : List Nat} (h : StepP p ro tag σ tag' σ') (hC : ∀ x, p x → x % 64 ∈ C) : StepS C ro tag σ tag' σ' := by
  obtain ⟨R, h1, h2⟩ := h
  exact ⟨R, fun x hx => hC x (h1 x hx), h2⟩
theorem Row.keepP {p : Nat → Prop} {r : Nat} {e : TypeId} {s : Sl} {l : List Value} (h : Row tag σ r e s l) (k : StepP p ro tag σ tag' σ') (hr : ¬ p r) : Row tag' σ' r e s l := by
  obtain ⟨R, h1, h2⟩ := k
  exact h.keep h2 fun m => hr (h1 _ m)
theorem Held.keepP {p : Nat → Prop} {r : Nat} {s : Sl} {l : List Value} (h : Held tag σ r s l) (k : StepP p ro tag σ tag' σ') (hr : ¬ p r) : Held tag' σ' r s l := by
  obtain ⟨R, h1, h2⟩ := k
  exact h.keep h2 fun m => hr (h1 _ m)
theorem Data.keepP {p : Nat → Prop} {s : Sl} {l : List Value} (h : Data ro tag σ s l) (k : StepP p ro tag σ tag' σ') (h6 : ¬ p 6) : Data ro tag' σ' s l := by
  obtain ⟨R, h1, h2⟩ := k
  exact h.keep h2 fun m => h6 (h1 _ m)
end Go.Proofs.YtfobjidchipdaaaGreatDoor.SL
namespace Go.Proofs.YtfobjidchipdaaaGreatDoor.Wl
open Go Go.Proofs.YtfobjidchipdaaaGreatDoor.SL Go.Proofs.YtfobjidchipdaaaGreatDoor.G Go.Proofs.YtfobjidchipdaaaGreatDoor.Pa Go.Proofs.YtfobjidchipdaaaGreatDoor.Wi Go.Proofs.YtfobjidchipdaaaGreatDoor.Dk
set_option linter.unusedSimpArgs false
set_option linter.unusedVariables false
set_option maxRecDepth 100000
variable {B : World} {ro σ σ' : AH} {tag tag' : Nat → Nat}
abbrev ra (b : Nat) : Nat := 11 + 64 * (2 * b + 2)
abbrev rb (b : Nat) : Nat := 11 + 64 * (2 * b + 3)
syntax "nin" : tactic
macro_rules | `(tactic| nin) => `(tactic| (intro hxx; simp only [ra, rb, List.mem_cons, List.mem_append, List.not_mem_nil, or_false] at hxx; omega))
syntax "nia" : tactic
macro_rules | `(tactic| nia) => `(tactic| (intro xx hxx; simp only [ra, rb, List.mem_cons, List.mem_append, List.not_mem_nil, or_false] at hxx ⊢; omega))
def SegR (tag : Nat → Nat) (σ : AH) (b number first size : Nat) (recs : List Str) : Prop := ∃ (s : Sl) (ss : List Sl), Row tag σ (ra b) 138 ⟨some ⟨b, 0, none⟩, 4, 4⟩ [vI (number : Nat), vI (first : Nat), Sl.v s, vI (size : Nat)] ∧ Row tag σ (rb b) 22 s (ss.map Sl.v) ∧ ss.length = recs.length ∧ ∀ (i : Nat) (x : Sl) (d : Str), ss[i]? = some x → recs[i]? = some d → Row tag σ 6 5 x (d.map vU)
theorem SegR.at {b : Nat} {g : Seg} (h : SegR tag σ b g.number g.first g.bytes.length g.recs) : SegAt tag σ 11 b g := h
theorem SegAt.r {b : Nat} {g : Seg} (h : SegAt tag σ 11 b g) : SegR tag σ b g.number g.first g.bytes.length g.recs := h
theorem SegAt.keepP {p : Nat → Prop} {b : Nat} {g : Seg} (h : SegAt tag σ 11 b g) (k : StepP p ro tag σ tag' σ') (h1 : ¬ p (ra b)) (h2 : ¬ p (rb b)) (h6 : ¬ p 6) : SegAt tag' σ' 11 b g := by
  obtain ⟨R, k1, k2⟩ := k
  exact h.keep k2 (fun m => h1 (k1 _ m)) (fun m => h2 (k1 _ m)) fun m => h6 (k1 _ m)
def layP (b x : Nat) : Prop := x % 64 = 0 ∨ x % 64 = 10 ∨ x = ra b ∨ x = rb b
theorem lay_ok {T M Lb b number first size safe : Nat} {limit cap : Int} {ps : Ps} {recs : List Str} {d r : Str} {a2 a3 s : Sl} {Q : Int → AH → Prop} (g : Glob ro)
    (hcell : Row tag σ 11 131 ⟨some ⟨Lb, 0, none⟩, 5, 5⟩ [ptr T, vS logN, vI limit, Sl.v s, vI (safe : Nat)]) (hD : Disk tag σ 10 T M cap ps) (hS : SegR tag σ b number first size recs) (hn : number < 1003) (hc0 : 0 ≤ cap) (hc1 : cap ≤ 1073741824) (hu : used (pfs ps) ≤ 1073741824)
    (hsz : size ≤ 1073741824) (hrl : recs.length ≤ 1000) (h2 : Row tag σ 14 5 a2 (d.map vU)) (hdl : d.length ≤ 1073741824) (h3 : SL.Data ro tag σ a3 (r.map vU)) (hl3 : r.length ≤ 1073741824)
    (h32 : cap < ((used (pfs ps) + d.length : Nat) : Int) → ∀ tag' σ', Step [0] ro tag σ tag' σ' → Q 32 σ')
    (hok : ((used (pfs ps) + d.length : Nat) : Int) ≤ cap → ∀ ps' tag' σ', StepP (layP b) ro tag σ tag' σ' → Disk tag' σ' 10 T M cap ps' → pfs ps' = fapp (pfs ps) (fname number) d → SegR tag' σ' b number first (size + d.length) (recs ++ [r]) → Q 0 σ') :
    c_wal_Log_lay B ro (some ⟨Lb, 0, none⟩) (some ⟨b, 0, none⟩) a2 a3 σ Q := by
  refine lay2_ok fun hs => ?_
  unfold f_lay2
  have hl2 : a2.len = d.length := by rw [h2.len, List.length_map]
  obtain ⟨sr, ss, rA, rB, hss, hrec⟩ := hS
  refine lent_roles tag [11] ?_
  have hsL : SL.Sep (join ro (inR tag [11] σ)) (outR tag [11] σ) := hs.lentR
  have cL : ∀ τ i v, [ptr T, vS logN, vI limit, Sl.v s, vI (safe : Nat)][i]? = some v → acell (join ro (inR tag [11] σ)) τ ((⟨Lb, 0, none⟩ : Addr).add i) = some v := fun τ i v hv => hcell.lendR hs (by simp) rfl hv
  have rAo := rA.outR (L := [11]) (by nin)
  have rBo := rB.outR (L := [11]) (by nin)
  obtain ⟨p, hp, hg⟩ := rAo.ptr hsL (by simp)
  cases hp
  refine ⟨_, rfl, _, by have := cL (fun _ => none) 0 _ rfl; rwa [add_zero] at this, _, rfl, _, rfl, some ⟨T, 0, none⟩, S logN, cellsAt_of 0 fun i v hv => ?_, (number : Int), by have := hg 0 _ rfl; rwa [Nat.zero_mul, add_zero] at this, ?_⟩
  · rw [Nat.zero_add]
    refine cL _ i v ?_
    match i, hv with
    | 0, hv => exact hv
    | 1, hv => exact hv
  refine file_ok (tag := tag) (glob_more g) (by omega) fun tag1 σ1 st1 => ?_
  have hD1 := DiskAt.keep (DiskAt.outR (L := [11]) hD (by simp)) (st1 []) (by simp)
  have h2o := (h2.outR (L := [11]) (by decide)).keep (st1 []) (by simp)
  refine append_ok (tag := tag1) (r := 10) (n := fname number) (d := d) hD1 (by decide) (by decide) hc0 hc1 (by omega) hl2 (by omega) (fun tag' σ' st => (h2o.keepS st (by decide)).read st.sep) (fun h => ?_) (fun _ hlt tag2 σ2 st2 => ?_) (fun _ hle ps2 tag2 σ2 st2 hD2 hf2 => ?_)
  · rw [dName_f hn] at h; cases h
  · intro hdis
    rw [if_pos (by decide)]
    exact h32 hlt _ _ (((st1 [0]).trans st2).backR hs hdis)
  intro hdis
  rw [if_neg (by decide)]
  have st2B := (((st1 []).s (C := [0, 10]) (by simp)).trans st2).backR hs hdis
  have hD3 := DiskAt.backR hD2 hdis
  have rA3 := rA.keepS st2B (by show (11 + 64 * (2 * b + 2)) % 64 ∉ _; rw [Nat.add_mul_mod_self_left]; decide)
  have rB3 := rB.keepS st2B (by show (11 + 64 * (2 * b + 3)) % 64 ∉ _; rw [Nat.add_mul_mod_self_left]; decide)
  have h33 := h3.keepS st2B (by decide)
  have hrec3 : ∀ (i : Nat) (x : Sl) (d : Str), ss[i]? = some x → recs[i]? = some d → Row (tagB tag tag2 [11] σ) (join (inR tag [11] σ) σ2) 6 5 x (d.map vU) := fun i x d hx hd => (hrec i x d hx hd).keepS st2B (by decide)
  have hs3 := st2B.sep
  generalize join (inR tag [11] σ) σ2 = σ3 at *
  generalize tagB tag tag2 [11] σ = tag3 at *
  obtain ⟨p3, hp3, hg3⟩ := rA3.ptr hs3 (by simp)
  cases hp3
  refine ⟨_, rfl, (size : Int), by have := hg3 3 _ rfl; rwa [Nat.mul_one] at this, _, rfl, ?_⟩
  rw [hl2, w64_eq (by omega) (by omega), show ((size : Int) + (d.length : Int)) = ((size + d.length : Nat) : Int) by omega]
  have e3 : (⟨b, 0, none⟩ : Addr).add 3 = (⟨b, 0, none⟩ : Addr).add (3 * 1) := rfl
  rw [e3]
  refine rA3.st (i := 3) hs3 rfl (by simp) rfl fun σ4 st4 rA4 => ?_
  have rA4 : Row tag3 σ4 (ra b) 138 ⟨some ⟨b, 0, none⟩, 4, 4⟩ [vI (number : Nat), vI (first : Nat), Sl.v sr, vI ((size + d.length : Nat) : Int)] := rA4
  have rB4 := rB3.keep st4 (by nin)
  have h34 := h33.keep st4 (by nin)
  have hD4 := hD3.keep st4 (by nia)
  have hs4 := st4.sep
  refine lent_roles tag3 [ra b] ?_
  have hsM : SL.Sep (join ro (inR tag3 [ra b] σ4)) (outR tag3 [ra b] σ4) := hs4.lentR
  refine ⟨_, rfl, sr, rA4.lendR hs4 (by simp) rfl rfl, ?_⟩
  refine Zt.clone_ok (tag := tag3) ((h34.outR (L := [ra b]) (by nin)).read hsM) hsM (by rw [List.length_map]; omega) (by simp [storable]) fun s5 tag5 σ5 st5 r5 => ?_
  refine nw_cells (tag := tag5) 0 (st5 []).sep fun V tag6 σ6 st6 r6 => ?_
  have rB6 := (rB4.outR (L := [ra b]) (by nin)).keep ((st5 []).trans (st6 [])) (by simp)
  refine awp_append1 rB6 (st6 []).sep Sn.u44 ty22 rfl rfl (Row.cell1 r6 (st6 []).sep) rfl (by rw [List.length_map]; omega) (by decide) fun s7 tag7 σ7 st7 r7 => ?_
  refine ⟨s7, rfl, ?_⟩
  intro hdis2
  have stAll := (((st5 [rb b]).trans (st6 _)).trans st7).backR hs4 hdis2
  have rB8 := r7.backR hdis2
  have r58 := ((r5.keep (st6 []) (by simp)).keep st7 (by nin)).backR hdis2
  have rA8 := rA4.keep stAll (by nin)
  have hD8 := hD4.keep stAll (by nia)
  have hrec8 : ∀ (i : Nat) (x : Sl) (d : Str), ss[i]? = some x → recs[i]? = some d → Row (tagB tag3 tag7 [ra b] σ4) (join (inR tag3 [ra b] σ4) σ7) 6 5 x (d.map vU) := fun i x d hx hd => ((hrec3 i x d hx hd).keep st4 (by nin)).keep stAll (by nin)
  have hs8 := stAll.sep
  generalize join (inR tag3 [ra b] σ4) σ7 = σ8 at *
  generalize tagB tag3 tag7 [ra b] σ4 = tag8 at *
  refine ⟨_, rfl, ?_⟩
  have e2 : (⟨b, 0, none⟩ : Addr).add 2 = (⟨b, 0, none⟩ : Addr).add (2 * 1) := rfl
  rw [e2]
  refine rA8.st (i := 2) hs8 rfl (by simp) rfl fun σ9 st9 rA9 => ?_
  have rA9 : Row tag8 σ9 (ra b) 138 ⟨some ⟨b, 0, none⟩, 4, 4⟩ [vI (number : Nat), vI (first : Nat), Sl.v s7, vI ((size + d.length : Nat) : Int)] := rA9
  have hP : StepP (layP b) ro tag σ tag8 σ9 := (st2B.p (fun x hx => by simp only [layP, ra, rb, List.mem_cons, List.not_mem_nil, or_false] at hx ⊢; omega)).trans ((st4.p (fun x hx => by simp only [layP, ra, rb, List.mem_cons, List.not_mem_nil, or_false] at hx ⊢; omega)).trans ((stAll.p (fun x hx => by simp only [layP, ra, rb, List.mem_cons, List.not_mem_nil, or_false] at hx ⊢; omega)).trans (st9.p (fun x hx => by simp only [layP, ra, rb, List.mem_cons, List.not_mem_nil, or_false] at hx ⊢; omega))))
  refine hok hle ps2 tag8 σ9 hP (hD8.keep st9 (by nia)) hf2 ⟨s7, ss ++ [s5], rA9, by rw [List.map_append]; exact rB8.keep st9 (by nin), by simp [hss], fun i x y hx hy => ?_⟩
  rcases Nat.lt_or_ge i ss.length with h | h
  · rw [List.getElem?_append_left h] at hx
    rw [List.getElem?_append_left (by omega)] at hy
    exact (hrec8 i x y hx hy).keep st9 (by nin)
  · rw [List.getElem?_append_right h] at hx
    rw [List.getElem?_append_right (by omega)] at hy
    have hi : i - ss.length = 0 := by
      rcases Nat.eq_zero_or_pos (i - ss.length) with h0 | h0
      · exact h0
      · rw [List.getElem?_eq_none (by simp; omega)] at hx; cases hx
    rw [hi] at hx
    rw [show i - recs.length = 0 by omega] at hy
    cases hx; cases hy
    exact r58.keep st9 (by nin)
end Go.Proofs.YtfobjidchipdaaaGreatDoor.Wl

/- Logs, pure: what writing and syncing do to the files. -/
namespace Go.Proofs.YtfobjidchipdaaaGreatDoor.Wl
open Go Go.Proofs.YtfobjidchipdaaaGreatDoor.SL Go.Proofs.YtfobjidchipdaaaGreatDoor.Wi Go.Proofs.YtfobjidchipdaaaGreatDoor.Dk
set_option linter.unusedSimpArgs false
set_option linter.unusedVariables false
set_option maxRecDepth 100000
section
variable {β : Type}
theorem lookup_snoc {l : List (Str × β)} {k : Str} {v : β} (h : k ∉ l.map (·.1)) : (l ++ [(k, v)]).lookup k = some v := by
  induction l with
  | nil => simp
  | cons p l ih =>
    rw [List.map_cons, List.mem_cons, not_or] at h
    rw [List.cons_append, List.lookup_cons, show (k == p.1) = false by simpa using h.1]
    exact ih h.2
theorem aput_snoc {l : List (Str × β)} {k : Str} {v w : β} (h : k ∉ l.map (·.1)) : aput (l ++ [(k, v)]) k w = l ++ [(k, w)] := by
  induction l with
  | nil => simp [aput]
  | cons p l ih =>
    obtain ⟨k', v'⟩ := p
    rw [List.map_cons, List.mem_cons, not_or] at h
    rw [List.cons_append]
    unfold aput
    rw [if_neg h.1, ih h.2]; rfl
theorem adel_snoc {l : List (Str × β)} {k : Str} {v : β} (h : k ∉ l.map (·.1)) : adel (l ++ [(k, v)]) k = l := by
  induction l with
  | nil => simp [adel]
  | cons p l ih =>
    obtain ⟨k', v'⟩ := p
    rw [List.map_cons, List.mem_cons, not_or] at h
    rw [List.cons_append]
    unfold adel
    rw [if_neg h.1, ih h.2]
end
theorem logFs_snoc (L : List (Seg × Nat)) (g : Seg) (m : Nat) : logFs (L ++ [(g, m)]) = logFs L ++ [(fname g.number, ⟨g.bytes, m⟩)] := by unfold logFs; rw [List.map_append]; rfl
theorem segs_snoc (L : List (Seg × Nat)) (g : Seg) (m : Nat) : segs (L ++ [(g, m)]) = segs L ++ [g] := by unfold segs; rw [List.map_append]; rfl
theorem logFs_names (L : List (Seg × Nat)) : (logFs L).map (·.1) = (segs L).map fun g => fname g.number := by unfold logFs segs; rw [List.map_map, List.map_map]; rfl
theorem recsOf_snoc (gs : List Seg) (g : Seg) : recsOf (gs ++ [g]) = recsOf gs ++ g.recs := by unfold recsOf; rw [List.flatMap_append]; simp
theorem notin_last {gs : List Seg} {g : Seg} {n f : Nat} (h : Chain n f (gs ++ [g])) (hb : n + gs.length + 1 ≤ 1003) : fname g.number ∉ gs.map fun g => fname g.number := by
  have := chain_names h (by simp; omega)
  rw [List.map_append, List.pairwise_append] at this
  intro hm
  have := this.2.2 _ hm (fname g.number) (by simp)
  exact absurd this (List.lt_irrefl _)
theorem notin_new {gs : List Seg} {n f k : Nat} (h : Chain n f gs) (hb : n + gs.length ≤ k) (hk : k < 1003) : fname k ∉ gs.map fun g => fname g.number := by
  intro hm
  obtain ⟨g, hg, e⟩ := List.mem_map.1 hm
  obtain ⟨i, hi, e2⟩ := List.mem_iff_getElem.1 hg
  have := (chain_get h (i := i) (by rw [List.getElem?_eq_getElem hi, e2])).1
  have := fname_inj (by omega) hk e
  omega
def syncL (L : List (Seg × Nat)) : List (Seg × Nat) := match L.getLast? with
  | some x => L.dropLast ++ [(x.1, x.1.bytes.length)]
  | none => []
theorem syncL_snoc (L : List (Seg × Nat)) (g : Seg) (m : Nat) : syncL (L ++ [(g, m)]) = L ++ [(g, g.bytes.length)] := by unfold syncL; simp
theorem segs_syncL (L : List (Seg × Nat)) : segs (syncL L) = segs L := by
  rcases List.eq_nil_or_concat L with rfl | ⟨L0, ⟨g, m⟩, rfl⟩
  · rfl
  · rw [List.concat_eq_append, syncL_snoc, segs_snoc, segs_snoc]
theorem sync_last {L : List (Seg × Nat)} {g : Seg} {m n f : Nat} (h : Chain n f (segs (L ++ [(g, m)]))) (hb : n + L.length + 1 ≤ 1003) : sync1 (logFs (L ++ [(g, m)])) (fname g.number) = logFs (syncL (L ++ [(g, m)])) := by
  rw [segs_snoc] at h
  have hn := notin_last h (by unfold segs; rw [List.length_map]; exact hb)
  rw [← logFs_names] at hn
  rw [syncL_snoc, logFs_snoc, logFs_snoc]
  unfold sync1
  rw [lookup_snoc hn]
  show aput _ _ _ = _
  rw [aput_snoc hn]
theorem app_last {L : List (Seg × Nat)} {g : Seg} {m n f : Nat} {r : Str} (h : Chain n f (segs (L ++ [(g, m)]))) (hb : n + L.length + 1 ≤ 1003) : fapp (logFs (L ++ [(g, m)])) (fname g.number) (frame r) = logFs (L ++ [(⟨g.number, g.first, g.recs ++ [r]⟩, m)]) := by
  rw [segs_snoc] at h
  have hn := notin_last h (by unfold segs; rw [List.length_map]; exact hb)
  rw [← logFs_names] at hn
  rw [logFs_snoc, logFs_snoc]
  unfold fapp
  rw [lookup_snoc hn]
  show aput _ _ _ = _
  rw [aput_snoc hn]
  unfold Seg.bytes
  simp
theorem app_new {L : List (Seg × Nat)} {n f k : Nat} {r : Str} (h : Chain n f (segs L)) (hb : n + L.length ≤ k) (hk : k < 1003) (first : Nat) : fapp (logFs L) (fname k) (headOf first ++ frame r) = logFs (L ++ [(⟨k, first, [r]⟩, 0)]) := by
  have hn := notin_new h (by unfold segs; rw [List.length_map]; exact hb) hk
  rw [← logFs_names] at hn
  rw [logFs_snoc]
  unfold fapp
  rw [lookup_key.2 hn]
  show aput _ _ _ = _
  rw [aput_new (lookup_key.2 hn)]
  unfold Seg.bytes
  simp
theorem used_snoc (L : List (Seg × Nat)) (g : Seg) (m : Nat) : used (logFs (L ++ [(g, m)])) = used (logFs L) + g.bytes.length := by
  rw [logFs_snoc]; unfold used; simp
theorem used_syncL (L : List (Seg × Nat)) : used (logFs (syncL L)) = used (logFs L) := by
  rcases List.eq_nil_or_concat L with rfl | ⟨L0, ⟨g, m⟩, rfl⟩
  · rfl
  · rw [List.concat_eq_append, syncL_snoc, used_snoc, used_snoc]
/-- how many records are safe, beyond any cut of the last file -/
def SafeCnt (safe : Nat) (L : List (Seg × Nat)) : Prop := (L = [] → safe = 0) ∧ ∀ L0 g m, L = L0 ++ [(g, m)] → ∃ k, k ≤ g.recs.length ∧ safe ≤ g.first + k ∧ (k = 0 ∨ (headOf g.first ++ (g.recs.take k).flatMap frame).length ≤ m)
structure LW (safe : Nat) (L : List (Seg × Nat)) : Prop where
  chain : Chain 1 0 (segs L)
  ne : ∀ g ∈ segs L, g.recs ≠ []
  cnt : (recsOf (segs L)).length ≤ 1000
  recs : ∀ d ∈ recsOf (segs L), d.length ≤ 65536
  le : ∀ x ∈ L, x.2 ≤ x.1.bytes.length
  full : ∀ x ∈ L.dropLast, x.2 = x.1.bytes.length
  safe : SafeCnt safe L
theorem LW.inn {safe : Nat} {L : List (Seg × Nat)} (h : LW safe L) : LogIn 1 0 (segs L) := by
  have := chain_len h.ne
  have := h.cnt
  exact ⟨h.chain, by omega, by omega, Nat.le_refl _⟩
theorem LW.len {safe : Nat} {L : List (Seg × Nat)} (h : LW safe L) : L.length ≤ 1000 := by
  have := chain_len h.ne
  have := h.cnt
  have e : (segs L).length = L.length := by unfold segs; rw [List.length_map]
  omega
theorem LW.nil : LW 0 [] := ⟨trivial, (fun g h => by cases h), by decide, (fun d h => by cases h), (fun x h => by cases h), (fun x h => by cases h), fun _ => rfl, fun L0 g m h => by have := congrArg List.length h; simp at this⟩
theorem snoc_inj {α : Type} {L L0 : List α} {x y : α} (h : L ++ [x] = L0 ++ [y]) : L = L0 ∧ x = y := by
  have := List.append_inj' h rfl
  exact ⟨this.1, by simpa using this.2⟩
theorem LW.sync {safe : Nat} {L : List (Seg × Nat)} (h : LW safe L) : LW (nextOf (segs L)) (syncL L) := by
  have e := segs_syncL L
  refine ⟨by rw [e]; exact h.chain, by rw [e]; exact h.ne, by rw [e]; exact h.cnt, by rw [e]; exact h.recs, ?_, ?_, ?_⟩
  all_goals
    rcases List.eq_nil_or_concat L with rfl | ⟨L0, ⟨g, m⟩, rfl⟩
  · intro x hx; cases hx
  · rw [List.concat_eq_append] at *
    rw [syncL_snoc]
    intro x hx
    rcases List.mem_append.1 hx with hx | hx
    · exact h.le x (List.mem_append_left _ hx)
    · rw [List.mem_singleton.1 hx]; exact Nat.le_refl _
  · intro x hx; cases hx
  · rw [List.concat_eq_append] at *
    rw [syncL_snoc, List.dropLast_concat]
    intro x hx
    exact h.full x (by rw [List.dropLast_concat]; exact hx)
  · exact ⟨fun _ => rfl, fun L0 g m h => by have := congrArg List.length h; simp [syncL] at this⟩
  · rw [List.concat_eq_append] at *
    rw [syncL_snoc]
    refine ⟨fun h => by simp at h, fun L1 g1 m1 h1 => ?_⟩
    obtain ⟨_, h2⟩ := snoc_inj h1
    cases h2
    refine ⟨g.recs.length, Nat.le_refl _, ?_, .inr (by rw [List.take_length]; exact Nat.le_refl _)⟩
    rw [segs_snoc]
    unfold nextOf
    rw [List.getLast?_append]; exact Nat.le_refl _
theorem LW.lay {safe : Nat} {L : List (Seg × Nat)} {g : Seg} {m : Nat} {r : Str} (h : LW safe (L ++ [(g, m)])) (hr : r.length ≤ 65536) (hc : (recsOf (segs (L ++ [(g, m)]))).length < 1000) : LW safe (L ++ [(⟨g.number, g.first, g.recs ++ [r]⟩, m)]) ∧ recsOf (segs (L ++ [(⟨g.number, g.first, g.recs ++ [r]⟩, m)])) = recsOf (segs (L ++ [(g, m)])) ++ [r] := by
  have e : recsOf (segs (L ++ [(⟨g.number, g.first, g.recs ++ [r]⟩, m)])) = recsOf (segs (L ++ [(g, m)])) ++ [r] := by
    rw [segs_snoc, segs_snoc, recsOf_snoc, recsOf_snoc, List.append_assoc]
  have eb : (⟨g.number, g.first, g.recs ++ [r]⟩ : Seg).bytes = g.bytes ++ frame r := by unfold Seg.bytes; simp
  refine ⟨⟨?_, ?_, by rw [e]; simp; omega, fun d hd => ?_, fun x hx => ?_, fun x hx => ?_, ?_, fun L1 g1 m1 h1 => ?_⟩, e⟩
  · have := h.chain
    rw [segs_snoc] at this ⊢
    rw [chain_append] at this ⊢
    obtain ⟨a, b, c, _⟩ := this
    exact ⟨a, b, c, trivial⟩
  · intro x hx
    have hn := h.ne
    rw [segs_snoc] at hn hx
    rcases List.mem_append.1 hx with hx | hx
    · exact hn x (List.mem_append_left _ hx)
    · rw [List.mem_singleton.1 hx]; simp
  · rw [e] at hd
    rcases List.mem_append.1 hd with hd | hd
    · exact h.recs d hd
    · rw [List.mem_singleton.1 hd]; exact hr
  · rcases List.mem_append.1 hx with hx | hx
    · exact h.le x (List.mem_append_left _ hx)
    · rw [List.mem_singleton.1 hx]
      have := h.le (g, m) (by simp)
      simp only at this ⊢
      rw [eb, List.length_append]; omega
  · rw [List.dropLast_concat] at hx
    exact h.full x (by rw [List.dropLast_concat]; exact hx)
  · intro h0; simp at h0
  · obtain ⟨_, h2⟩ := snoc_inj h1
    cases h2
    obtain ⟨k, k1, k2, k3⟩ := h.safe.2 L g m rfl
    refine ⟨k, by simp; omega, k2, ?_⟩
    rw [List.take_append_of_le_length k1]; exact k3
theorem LW.new {safe : Nat} {L : List (Seg × Nat)} {r : Str} (h : LW safe L) (hfull : ∀ x ∈ L, x.2 = x.1.bytes.length) (hr : r.length ≤ 65536) (hc : (recsOf (segs L)).length < 1000) (hs : safe ≤ (recsOf (segs L)).length) : LW safe (L ++ [(⟨1 + L.length, (recsOf (segs L)).length, [r]⟩, 0)]) ∧ recsOf (segs (L ++ [(⟨1 + L.length, (recsOf (segs L)).length, [r]⟩, 0)])) = recsOf (segs L) ++ [r] := by
  have e : recsOf (segs (L ++ [(⟨1 + L.length, (recsOf (segs L)).length, [r]⟩, 0)])) = recsOf (segs L) ++ [r] := by
    rw [segs_snoc, recsOf_snoc]
  refine ⟨⟨?_, ?_, by rw [e]; simp; omega, fun d hd => ?_, fun x hx => ?_, fun x hx => ?_, ?_, fun L1 g1 m1 h1 => ?_⟩, e⟩
  · rw [segs_snoc, chain_append]
    refine ⟨h.chain, ?_, ?_, trivial⟩
    · show 1 + L.length = 1 + (segs L).length
      unfold segs; rw [List.length_map]
    · show (recsOf (segs L)).length = _; omega
  · intro x hx
    rw [segs_snoc] at hx
    rcases List.mem_append.1 hx with hx | hx
    · exact h.ne x hx
    · rw [List.mem_singleton.1 hx]; simp
  · rw [e] at hd
    rcases List.mem_append.1 hd with hd | hd
    · exact h.recs d hd
    · rw [List.mem_singleton.1 hd]; exact hr
  · rcases List.mem_append.1 hx with hx | hx
    · exact h.le x hx
    · rw [List.mem_singleton.1 hx]; exact Nat.zero_le _
  · rw [List.dropLast_concat] at hx
    exact hfull x hx
  · intro h0; simp at h0
  · obtain ⟨_, h2⟩ := snoc_inj h1
    cases h2
    exact ⟨0, Nat.zero_le _, by simp only; omega, .inl rfl⟩
theorem syncL_full {safe : Nat} {L : List (Seg × Nat)} (h : LW safe L) : ∀ x ∈ syncL L, x.2 = x.1.bytes.length := by
  rcases List.eq_nil_or_concat L with rfl | ⟨L0, ⟨g, m⟩, rfl⟩
  · intro x hx; cases hx
  · rw [List.concat_eq_append] at *
    rw [syncL_snoc]
    intro x hx
    rcases List.mem_append.1 hx with hx | hx
    · exact h.full x (by rw [List.dropLast_concat]; exact hx)
    · rw [List.mem_singleton.1 hx]
theorem LW.next {safe : Nat} {L : List (Seg × Nat)} (h : LW safe L) : nextOf (segs L) = (recsOf (segs L)).length := by
  by_cases c : segs L = []
  · rw [c]; rfl
  · rw [chain_next h.chain c, Nat.zero_add]
end Go.Proofs.YtfobjidchipdaaaGreatDoor.Wl

/- Logs, the walk: Sync, write. -/
namespace Go.Proofs.YtfobjidchipdaaaGreatDoor.Wl
open Go Go.Proofs.YtfobjidchipdaaaGreatDoor.SL Go.Proofs.YtfobjidchipdaaaGreatDoor.G Go.Proofs.YtfobjidchipdaaaGreatDoor.Pa Go.Proofs.YtfobjidchipdaaaGreatDoor.Wi Go.Proofs.YtfobjidchipdaaaGreatDoor.Dk
set_option linter.unusedSimpArgs false
set_option linter.unusedVariables false
set_option maxRecDepth 100000
variable {B : World} {ro σ σ' : AH} {tag tag' : Nat → Nat}
def syncP (x : Nat) : Prop := x % 64 = 0 ∨ x % 64 = 10 ∨ x = 11
theorem LogAt.segsOf {T Lb safe : Nat} {limit : Int} {s : Sl} {xs : List (Nat × Seg)} {R : List Nat} (h : LogAt tag σ 11 T Lb limit safe s xs) (k : Step R ro tag σ tag' σ') (h1 : 75 ∉ R) (h2 : ∀ x ∈ xs, ra x.1 ∉ R ∧ rb x.1 ∉ R) (h6 : 6 ∉ R) : Held tag' σ' 75 s (ptrs xs) ∧ ∀ x ∈ xs, SegAt tag' σ' 11 x.1 x.2 :=
  ⟨h.segs.keep k h1, fun x hx => (h.node x hx).keep k (h2 x hx).1 (h2 x hx).2 h6⟩
theorem logSync_ok {T M Lb safe n f : Nat} {limit cap : Int} {s : Sl} {xs : List (Nat × Seg)} {L : List (Seg × Nat)} {ps : Ps} {Q : Int → AH → Prop} (g : Glob ro) (h : LogAt tag σ 11 T Lb limit safe s xs) (hD : Disk tag σ 10 T M cap ps) (hx : xs.map (·.2) = segs L) (hI : LogIn n f (segs L)) (hf : pfs ps = logFs L)
    (hQ : ∀ ps' tag' σ', StepP syncP ro tag σ tag' σ' → LogAt tag' σ' 11 T Lb limit (nextOf (segs L)) s xs → Disk tag' σ' 10 T M cap ps' → pfs ps' = logFs (syncL L) → Q 0 σ') : c_wal_Log_Sync B ro (some ⟨Lb, 0, none⟩) σ Q := by
  refine wal_Log_Sync_ok fun hs => ?_
  unfold f_wal_Log_Sync
  have hl := h.len
  have hxl : xs.length = L.length := by have := congrArg List.length hx; unfold segs at this; simpa using this
  have hnum := hI.num
  have hsl : (segs L).length = L.length := by unfold segs; rw [List.length_map]
  -- the last part
  have last : ∀ ps1 tag1 σ1, StepS [0, 10] ro tag σ tag1 σ1 → Disk tag1 σ1 10 T M cap ps1 → pfs ps1 = logFs (syncL L) → j1_wal_Log_Sync B ro (some ⟨Lb, 0, none⟩) Q σ1 := by
    intro ps1 tag1 σ1 st1 hD1 hf1
    have h1 := h.keepS st1 (by decide) (by decide)
    unfold j1_wal_Log_Sync
    refine logNext_ok h1 (by rw [hx]; exact hI) ?_
    refine ⟨_, rfl, ?_⟩
    have e4 : (⟨Lb, 0, none⟩ : Addr).add 4 = (⟨Lb, 0, none⟩ : Addr).add (4 * 1) := rfl
    rw [e4]
    refine h1.cell.st (i := 4) st1.sep rfl (by simp) rfl fun σ2 st2 r2 => ?_
    rw [hx] at r2
    obtain ⟨a1, a2⟩ := LogAt.segsOf h1 st2 (by decide) (fun x _ => ⟨by nin, by nin⟩) (by decide)
    refine hQ ps1 tag1 σ2 ((st1.p (fun x hx => by simp at hx; unfold syncP; omega)).trans (st2.p (fun x hx => by simp at hx; unfold syncP; omega))) ⟨r2, a1, a2, h.nd⟩ (hD1.keep st2 (by nia)) hf1
  refine ⟨_, rfl, s, h.at hs 3 _ rfl, ?_⟩
  rcases List.eq_nil_or_concat L with rfl | ⟨L0, ⟨gl, m⟩, rfl⟩
  · rw [if_neg (by rw [hl, hxl]; simp)]
    exact last ps tag σ (StepS.refl hs) hD hf
  rw [List.concat_eq_append] at *
  have hLl : (L0 ++ [(gl, m)]).length = L0.length + 1 := by simp
  rw [if_pos (by omega)]
  have e1 : IntKind.i64.wrap ((s.len : Int) - 1) = ((L0.length : Nat) : Int) := by rw [w64_eq (by omega) (by omega)]; omega
  have hxi := List.getElem?_eq_getElem (l := xs) (i := L0.length) (by omega)
  generalize xs[L0.length] = x at hxi
  have hgx : x.2 = gl := by
    have h1 : (xs.map (·.2))[L0.length]? = some x.2 := by rw [List.getElem?_map, hxi]; rfl
    rw [hx, segs_snoc, List.getElem?_append_right (by unfold segs; rw [List.length_map]; exact Nat.le_refl _)] at h1
    unfold segs at h1
    simpa using h1.symm
  have hnode := h.node x (List.mem_of_getElem? hxi)
  rw [hgx] at hnode
  have hnumb : gl.number < 1003 := by
    have := (chain_get hI.chain (i := L0.length) (g := gl) (by rw [segs_snoc, List.getElem?_append_right (by unfold segs; rw [List.length_map]; exact Nat.le_refl _)]; unfold segs; simp)).1
    omega
  refine lent_roles tag [11] ?_
  have hsL : SL.Sep (join ro (inR tag [11] σ)) (outR tag [11] σ) := hs.lentR
  have cL : ∀ τ i v, [ptr T, vS logN, vI limit, Sl.v s, vI (safe : Nat)][i]? = some v → acell (join ro (inR tag [11] σ)) τ ((⟨Lb, 0, none⟩ : Addr).add i) = some v := fun τ i v hv => h.cell.lendR hs (by simp) rfl hv
  obtain ⟨p, hp, hcp⟩ := h.seg hs hxi
  obtain ⟨s2, _, hc2, _⟩ := hnode.at hs
  refine ⟨_, rfl, _, by have := cL (fun _ => none) 0 _ rfl; rwa [add_zero] at this, _, rfl, _, rfl, some ⟨T, 0, none⟩, S logN, cellsAt_of 0 fun i v hv => ?_, s, cL _ 3 _ rfl, p, hp, by rw [e1]; omega, by rw [e1]; omega, _, by rw [e1, Int.toNat_natCast, acell_lentR hs]; exact hcp, _, rfl, (gl.number : Int), by rw [acell_lentR hs]; have := hc2 0 _ rfl; rwa [add_zero] at this, ?_⟩
  · rw [Nat.zero_add]
    refine cL _ i v ?_
    match i, hv with
    | 0, hv => exact hv
    | 1, hv => exact hv
  refine file_ok (tag := tag) (glob_more g) (by omega) fun tag1 σ1 st1 => ?_
  refine nw_cells (tag := tag1) 3 (st1 []).sep fun V tag2 σ2 st2 r2 => ?_
  have hD2 := DiskAt.keep (DiskAt.outR (L := [11]) hD (by simp)) ((st1 []).trans (st2 [])) (by simp)
  have hps : ps.lookup (fname gl.number) ≠ none := by
    have hn := hf
    rw [logFs_snoc] at hn
    intro e
    have h1 : (pfs ps).lookup (fname gl.number) = none := by rw [pfs_lookup, e]; rfl
    rw [hn, lookup_key] at h1
    exact h1 (by simp)
  refine sync_ok (tag := tag2) (r := 10) (q := 3) (ns := [fname gl.number]) hD2 (by decide) (by decide) r2 (by decide) (by simp) (fun hbad => ?_) fun _ _ ps3 tag3 σ3 st3 hD3 hf3 => ?_
  · exfalso
    rcases hbad with hb | ⟨n, hn, e⟩
    · rw [List.all_cons, dName_f hnumb] at hb; cases hb
    · rw [List.mem_singleton.1 hn] at e; exact hps e
  intro hdis
  have stB := (((st1 []).trans (st2 [])).s (C := [0, 10]) (by simp)).trans st3 |>.backR hs hdis
  refine last ps3 _ _ stB (DiskAt.backR hD3 hdis) ?_
  rw [hf3, hf]
  show sync1 (logFs (L0 ++ [(gl, m)])) (fname gl.number) = _
  exact sync_last hI.chain (by omega)
/-- the classes that writing changes -/
abbrev WC : List Nat := [0, 1, 3, 10, 11, 14, 15]
theorem u129 : Tryz.prog.underlying 129 = some (.slice 136) := by kernel_rfl
/-- the bytes of a log's files, and how much may be written -/
structure LSt (tag : Nat → Nat) (σ : AH) (T M Lb : Nat) (limit cap : Int) (safe : Nat) (L : List (Seg × Nat)) : Prop where
  mem : ∃ s xs ps, LogAt tag σ 11 T Lb limit safe s xs ∧ Row tag σ 75 136 s (ptrs xs) ∧ Disk tag σ 10 T M cap ps ∧ xs.map (·.2) = segs L ∧ pfs ps = logFs L
  w : LW safe L
  used : (used (logFs L) : Int) ≤ cap
theorem write_ok {T M Lb safe : Nat} {limit cap : Int} {L : List (Seg × Nat)} {x : Sl} {r : Str} {Q : Int → AH → Prop} (g : Glob ro) (h : LSt tag σ T M Lb limit cap safe L) (hc0 : 0 ≤ cap) (hc1 : cap ≤ 1073741824) (h3 : SL.Data ro tag σ x (r.map vU)) (hr : r.length ≤ 65536) (hcnt : (recsOf (segs L)).length < 1000)
    (hno : cap < ((used (logFs L) + r.length + 25 : Nat) : Int) → ∀ safe' L' tag' σ', StepS WC ro tag σ tag' σ' → LSt tag' σ' T M Lb limit cap safe' L' → recsOf (segs L') = recsOf (segs L) → safe ≤ safe' → Q 32 σ')
    (hok : ∀ safe' L' tag' σ', StepS WC ro tag σ tag' σ' → LSt tag' σ' T M Lb limit cap safe' L' → recsOf (segs L') = recsOf (segs L) ++ [r] → safe ≤ safe' → (safe' = safe ∨ limit ≤ ((used (logFs L) : Nat) : Int)) → used (logFs L') ≤ used (logFs L) + r.length + 25 → Q 0 σ') :
    c_wal_Log_write B ro (some ⟨Lb, 0, none⟩) x σ Q := by
  refine wal_Log_write_ok fun hs => ?_
  unfold f_wal_Log_write
  obtain ⟨⟨s, xs, ps, hA, hrow, hD, hxs, hf⟩, hW, hU⟩ := h
  have hl := hA.len
  have hxl : xs.length = L.length := by have := congrArg List.length hxs; unfold segs at this; simpa using this
  have hLl := hW.len
  have hI := hW.inn
  have hnx := hW.next
  have hrx : x.len = r.length := by rw [h3.len, List.length_map]
  have hfr : (frame r).length = 8 + r.length := frame_len r
  have hsafe : safe ≤ (recsOf (segs L)).length := by
    rcases List.eq_nil_or_concat L with rfl | ⟨L0, ⟨gl, m⟩, rfl⟩
    · rw [hW.safe.1 rfl]; exact Nat.zero_le _
    · rw [List.concat_eq_append] at *
      obtain ⟨k, k1, k2, _⟩ := hW.safe.2 L0 gl m rfl
      have := (chain_get hW.chain (i := L0.length) (g := gl) (by rw [segs_snoc, List.getElem?_append_right (by unfold segs; rw [List.length_map]; exact Nat.le_refl _)]; unfold segs; simp)).2.2.1
      omega
  -- a new segment
  have fresh : (L = [] ∨ limit ≤ ((used (logFs L) : Nat) : Int)) → ∀ x36, x36 = false → j3_wal_Log_write B ro (some ⟨Lb, 0, none⟩) x s Q x36 σ := by
    intro hlim x36 hx36
    unfold j3_wal_Log_write
    rw [if_neg (by rw [hx36]; simp)]
    refine logNext_ok hA (by rw [hxs]; exact hI) ?_
    rw [hxs, hnx]
    refine nw_cellsF (tag := tag) ra hs fun b tag1 σ1 hrob hσb st1 rS => ?_
    have hA1 := hA.keep0 (st1 [])
    have hrow1 := hrow.keep (st1 []) (by simp)
    have hD1 := hD.keep (st1 []) (by simp)
    have h31 := h3.keep (st1 []) (by simp)
    have hs1 := (st1 []).sep
    have hbn : ∀ y ∈ xs, y.1 ≠ b := fun y hy e => by
      obtain ⟨s0, ss0, a, _⟩ := hA.node y hy
      obtain ⟨_, o, ho⟩ := a.tagOf
      rw [e, hσb] at ho; cases ho
    -- behind the number
    have tailOk : ∀ (safe1 : Nat) (L1 : List (Seg × Nat)) (ps1 : Ps) (tag2 : Nat → Nat) (σ2 : AH), StepP (fun y => syncP y ∨ y = ra b) ro tag1 σ1 tag2 σ2 → LogAt tag2 σ2 11 T Lb limit safe1 s xs → Disk tag2 σ2 10 T M cap ps1 → xs.map (·.2) = segs L1 → pfs ps1 = logFs L1 → LW safe1 L1 → segs L1 = segs L → (∀ y ∈ L1, y.2 = y.1.bytes.length) → safe ≤ safe1 → (safe1 = safe ∨ limit ≤ ((used (logFs L) : Nat) : Int)) → safe1 ≤ (recsOf (segs L1)).length → used (logFs L1) = used (logFs L) →
        Row tag2 σ2 (ra b) 138 ⟨some ⟨b, 0, none⟩, 4, 4⟩ [vI ((1 + L.length : Nat) : Int), vI ((recsOf (segs L)).length : Nat), Sl.v ⟨none, 0, 0⟩, vI 0] → j13_wal_Log_write B ro (some ⟨Lb, 0, none⟩) x b Q σ2 := by
      intro safe1 L1 ps1 tag2 σ2 st2 hA2 hD2 hxs1 hf1 hW1 hseg hfull hsf hsx hsf2 hus rS2
      have hs2 := st2.sep
      have hL1 : L1.length = L.length := by have := congrArg List.length hseg; unfold segs at this; simpa using this
      obtain ⟨pb, hpb, hgb⟩ := rS2.ptr hs2 (by simp)
      cases hpb
      unfold j13_wal_Log_write
      refine ⟨((1 + L.length : Nat) : Int), by have := hgb 0 _ rfl; rwa [Nat.zero_mul, add_zero] at this, ?_⟩
      rw [if_neg (by omega)]
      refine ⟨((recsOf (segs L)).length : Nat), by have := hgb 1 _ rfl; rwa [Nat.one_mul] at this, ?_⟩
      have hrow2 := (hrow1.keepP st2 (by simp only [syncP, ra]; omega))
      have h32 := h31.keepP st2 (by simp only [syncP, ra]; omega)
      refine nw_cells (tag := tag2) 3 hs2 fun V tag3 σ3 st3 r3 => ?_
      have hrn : [((recsOf (segs L)).length : Int)].all rightN = true := by unfold rightN; simp; omega
      refine Wi.numbers_ok (tag := tag3) (q := 1) (ns := [((recsOf (segs L)).length : Int)]) (st3 []).sep rfl (by simp) (fun tag' σ' st => (r3.keep st (by decide)).read st.sep) (fun h => by rw [hrn] at h; cases h) fun _ s4 tag4 σ4 st4 r4 => ?_
      have hnum1 : nums [((recsOf (segs L)).length : Int)] = vput (recsOf (segs L)).length := by unfold nums; simp
      rw [hnum1] at r4
      have hvl := vput_len9 (n := (recsOf (segs L)).length) (by omega)
      refine wframe_ok (tag := tag4) (q := 14) (by decide) (by omega) (by rw [r4.len, List.length_map]) (fun tag' σ' st => (r4.keep st (by simp)).read st.sep) fun s5 tag5 σ5 st5 r5 => ?_
      have st5 := st5 [14] (by simp)
      have h35 := ((h32.keep (st3 []) (by simp)).keep st4 (by decide)).keep st5 (by decide)
      refine wframe_ok (tag := tag5) (q := 15) (by decide) hr hrx (fun tag' σ' st => (h35.keep st (by simp)).read st.sep) fun s6 tag6 σ6 st6 r6 => ?_
      have st6 := st6 [15] (by simp)
      have hh : (headOf (recsOf (segs L)).length).length ≤ 17 := by unfold headOf; rw [frame_len]; omega
      refine awp_appendN (r5.keep st6 (by decide)) st6.sep (r6.read st6.sep) Zt.u30 ty5 rfl (by simp [storable]) (by rw [List.length_map, List.length_map, frame_len, frame_len]; omega) (by decide) fun s7 tag7 σ7 st7 r7 => ?_
      have st7 := st7 [14] (.inr (by simp))
      refine ⟨s7, rfl, ?_⟩
      have s27 : StepS [0, 1, 3, 14, 15] ro tag2 σ2 tag7 σ7 := ((st3 []).s (by simp)).trans ((st4.s (by decide)).trans ((st5.s (by decide)).trans ((st6.s (by decide)).trans (st7.s (by decide)))))
      have hA7 := hA2.keepS s27 (by decide) (by decide)
      have hD7 : Disk tag7 σ7 10 T M cap ps1 := Sn.DiskAt.keepS hD2 s27 (by decide)
      have rS7 := rS2.keepS s27 (by show (11 + 64 * (2 * b + 2)) % 64 ∉ _; rw [Nat.add_mul_mod_self_left]; decide)
      have hrow7 := hrow2.keepS s27 (by decide)
      have h37 := (h35.keep st6 (by decide)).keep st7 (by decide)
      rw [← List.map_append] at r7
      have r7 : Row tag7 σ7 14 5 s7 ((headOf (recsOf (segs L)).length ++ frame r).map vU) := r7
      refine lay_ok (tag := tag7) (b := b) (number := 1 + L.length) (first := (recsOf (segs L)).length) (size := 0) (recs := []) (d := headOf (recsOf (segs L)).length ++ frame r) (r := r) g hA7.cell hD7 ⟨⟨none, 0, 0⟩, [], rS7, Row.nil _ _, rfl, fun i y d hy => by cases hy⟩ (by omega) hc0 hc1 (by rw [hf1]; omega) (by omega) (by simp) r7 (by rw [List.length_append]; omega) h37 (by omega) (fun hlt tag8 σ8 st8 => ?_) (fun hle ps8 tag8 σ8 st8 hD8 hf8 hS8 => ?_)
      · rw [if_pos (by decide)]
        rw [hf1, hus, List.length_append] at hlt
        refine hno (by omega) safe1 L1 tag8 σ8 (((st1 []).s (by simp)).trans ((st2.s (fun y hy => by simp only [syncP, ra] at hy; simp; omega)).trans ((s27.mono (by decide)).trans (st8.s (by decide))))) ⟨⟨s, xs, ps1, hA7.keepS (st8.s (C := [0]) (by decide)) (by decide) (by decide), hrow7.keep st8 (by decide), hD7.keep st8 (by nia), hxs1, hf1⟩, hW1, by rw [hus]; exact hU⟩ (by rw [hseg]) hsf
      · rw [if_neg (by decide)]
        have hs8 := st8.sep
        have hnb : ∀ y ∈ xs, ¬ layP b (ra y.1) ∧ ¬ layP b (rb y.1) := fun y hy => by
          have := hbn y hy
          simp only [layP, ra, rb]; omega
        have hA8c := hA7.cell.keepP st8 (by simp only [layP, ra, rb]; omega)
        have hrow8 := hrow7.keepP st8 (by simp only [layP, ra, rb]; omega)
        have hn8 : ∀ y ∈ xs, SegAt tag8 σ8 11 y.1 y.2 := fun y hy => (hA7.node y hy).keepP st8 (hnb y hy).1 (hnb y hy).2 (by simp only [layP, ra, rb]; omega)
        obtain ⟨pL, hpL, hgL⟩ := hA8c.ptr hs8 (by simp)
        cases hpL
        refine ⟨_, rfl, s, by have := hgL 3 _ rfl; rwa [Nat.mul_one] at this, ?_⟩
        refine nw_cells (tag := tag8) 0 hs8 fun V2 tag9 σ9 st9 r9 => ?_
        refine awp_append1 (hrow8.keep (st9 []) (by simp)) (st9 []).sep u129 ty136 rfl rfl (Row.cell1 r9 (st9 []).sep) rfl (by unfold ptrs; rw [List.length_map]; omega) (by decide) fun s10 tag10 σ10 st10 r10 => ?_
        refine ⟨s10, rfl, _, rfl, ?_⟩
        have rc10 := (hA8c.keep (st9 []) (by simp)).keep st10 (by decide)
        have e3 : (⟨Lb, 0, none⟩ : Addr).add 3 = (⟨Lb, 0, none⟩ : Addr).add (3 * 1) := rfl
        rw [e3]
        refine rc10.st (i := 3) st10.sep rfl (by simp) (by simp [storable, Sl.v]) fun σ11 st11 r11 => ?_
        obtain ⟨hW2, hrec2⟩ := LW.new (r := r) hW1 hfull hr (by rw [hseg]; exact hcnt) hsf2
        have hgb2 : (⟨1 + L.length, (recsOf (segs L)).length, [r]⟩ : Seg).bytes = headOf (recsOf (segs L)).length ++ frame r := by unfold Seg.bytes; simp
        have s811 : Step [75, 11] ro tag8 σ8 tag10 σ11 := (st9 _).trans ((st10.mono (by decide)).trans (st11.mono (by decide)))
        have hS11 : SegAt tag10 σ11 11 b ⟨1 + L.length, (recsOf (segs L)).length, [r]⟩ := by
          have hb8 : SegAt tag8 σ8 11 b ⟨1 + L.length, (recsOf (segs L)).length, [r]⟩ := by
            have : SegR tag8 σ8 b (1 + L.length) (recsOf (segs L)).length (0 + (headOf (recsOf (segs L)).length ++ frame r).length) ([] ++ [r]) := hS8
            rw [Nat.zero_add, ← hgb2] at this
            exact this
          exact hb8.keep s811 (by nin) (by nin) (by decide)
        have hLeq : (⟨1 + L1.length, (recsOf (segs L1)).length, [r]⟩ : Seg) = ⟨1 + L.length, (recsOf (segs L)).length, [r]⟩ := by rw [hL1, hseg]
        rw [hLeq] at hW2 hrec2
        have hus2 : used (logFs (L1 ++ [(⟨1 + L.length, (recsOf (segs L)).length, [r]⟩, 0)])) = used (logFs L) + (headOf (recsOf (segs L)).length ++ frame r).length := by rw [used_snoc, hgb2, hus]
        rw [hf1, hus] at hle
        refine hok safe1 _ tag10 σ11 (((st1 []).s (by simp)).trans ((st2.s (fun y hy => by simp only [syncP, ra] at hy; simp; omega)).trans ((s27.mono (by decide)).trans ((st8.s (fun y hy => by simp only [layP, ra, rb] at hy; simp; omega)).trans (s811.s (by decide)))))) ⟨⟨s10, xs ++ [(b, ⟨1 + L.length, (recsOf (segs L)).length, [r]⟩)], ps8, ⟨r11, ?_, ?_, ?_⟩, ?_, hD8.keep s811 (by nia), ?_, ?_⟩, hW2, ?_⟩ (by rw [hrec2, hseg]) hsf hsx ?_
        · have := (r10.keep st11 (by decide)).held
          unfold ptrs; rw [List.map_append]; exact this
        · intro y hy
          rcases List.mem_append.1 hy with hy | hy
          · exact (hn8 y hy).keep s811 (by nin) (by nin) (by decide)
          · rw [List.mem_singleton.1 hy]; exact hS11
        · rw [List.map_append, List.nodup_append]
          refine ⟨hA.nd, by simp, fun u hu v hv e => ?_⟩
          obtain ⟨y, hy, rfl⟩ := List.mem_map.1 hu
          simp at hv
          exact hbn y hy (by rw [e, hv])
        · unfold ptrs; rw [List.map_append]; exact r10.keep st11 (by decide)
        · rw [List.map_append, hxs1, segs_snoc]; rfl
        · rw [hf8, hf1]
          exact app_new hW1.chain (by omega) (by omega) _
        · rw [hus2]; exact hle
        · rw [hus2, List.length_append]; omega
    refine ⟨_, rfl, s, hA1.at hs1 3 _ rfl, ?_⟩
    by_cases c0 : L.length = 0
    · rw [if_neg (by omega)]
      have hLn : L = [] := List.eq_nil_of_length_eq_zero c0
      refine tailOk safe L ps tag1 σ1 (StepP.refl hs1) hA1 hD1 hxs hf hW rfl (by rw [hLn]; intro y hy; cases hy) (Nat.le_refl _) (.inl rfl) hsafe rfl ?_
      rw [c0]; exact rS
    rw [if_pos (by omega)]
    have e1 : IntKind.i64.wrap ((s.len : Int) - 1) = ((L.length - 1 : Nat) : Int) := by rw [w64_eq (by omega) (by omega)]; omega
    have hxi := List.getElem?_eq_getElem (l := xs) (i := L.length - 1) (by omega)
    generalize xs[L.length - 1] = y at hxi
    obtain ⟨p, hp, hcp⟩ := hA1.seg hs1 hxi
    obtain ⟨s2, _, hc2, _⟩ := (hA1.node y (List.mem_of_getElem? hxi)).at hs1
    have hyn : y.2.number = L.length := by
      have := (chain_get hW.chain (i := L.length - 1) (g := y.2) (by rw [← hxs, List.getElem?_map, hxi]; rfl)).1
      omega
    refine ⟨_, rfl, s, hA1.at hs1 3 _ rfl, p, hp, by rw [e1]; omega, by rw [e1]; omega, _, by rw [e1, Int.toNat_natCast]; exact hcp, _, rfl, (y.2.number : Int), by have := hc2 0 _ rfl; rwa [add_zero] at this, ?_⟩
    rw [hyn, show IntKind.i64.wrap ((L.length : Int) + 1) = ((1 + L.length : Nat) : Int) by rw [w64_eq (by omega) (by omega)]; omega]
    refine Row.stPre [vI ((1 + L.length : Nat) : Int)] 0 _ _ rS hs1 (by simp) (by simp [storable]) fun σ2 st2 rS2 => ?_
    have rS2 : Row tag1 σ2 (ra b) 138 ⟨some ⟨b, 0, none⟩, 4, 4⟩ [vI ((1 + L.length : Nat) : Int), vI ((recsOf (segs L)).length : Nat), Sl.v ⟨none, 0, 0⟩, vI 0] := rS2
    have hA2 : LogAt tag1 σ2 11 T Lb limit safe s xs := by
      obtain ⟨a1, a2⟩ := LogAt.segsOf hA1 st2 (by nin) (fun z hz => by
        have := hbn z hz
        exact ⟨by nin, by nin⟩) (by nin)
      exact ⟨hA1.cell.keep st2 (by nin), a1, a2, hA1.nd⟩
    refine logSync_ok g hA2 (hD1.keep st2 (by nia)) hxs hI hf fun ps3 tag3 σ3 st3 hA3 hD3 hf3 => ?_
    refine tailOk (nextOf (segs L)) (syncL L) ps3 tag3 σ3 ((st2.p (fun z hz => .inr (by simpa using hz))).trans (st3.mono (fun z hz => .inl hz))) hA3 hD3 (by rw [segs_syncL]; exact hxs) hf3 hW.sync (segs_syncL L) (syncL_full hW) (by rw [hnx]; exact hsafe) (.inr (hlim.resolve_left fun e => c0 (by rw [e]; rfl))) (by rw [segs_syncL, hnx]; exact Nat.le_refl _) (used_syncL L) (rS2.keepP st3 (by simp only [syncP, ra]; omega))
  refine ⟨_, rfl, s, hA.at hs 3 _ rfl, ?_⟩
  by_cases c0 : L.length = 0
  · rw [if_neg (by omega)]
    exact fresh (.inl (List.eq_nil_of_length_eq_zero c0)) false rfl
  rw [if_pos (by omega)]
  rcases List.eq_nil_or_concat L with rfl | ⟨L0, ⟨gl, m⟩, rfl⟩
  · exact absurd rfl c0
  rw [List.concat_eq_append] at *
  have hLl2 : (L0 ++ [(gl, m)]).length = L0.length + 1 := by simp
  have e1 : IntKind.i64.wrap ((s.len : Int) - 1) = ((L0.length : Nat) : Int) := by rw [w64_eq (by omega) (by omega)]; omega
  have hxi := List.getElem?_eq_getElem (l := xs) (i := L0.length) (by omega)
  generalize hy : xs[L0.length] = y at hxi
  have hgx : y.2 = gl := by
    have h1 : (xs.map (·.2))[L0.length]? = some y.2 := by rw [List.getElem?_map, hxi]; rfl
    rw [hxs, segs_snoc, List.getElem?_append_right (by unfold segs; rw [List.length_map]; exact Nat.le_refl _)] at h1
    unfold segs at h1
    simpa using h1.symm
  have hnode := hA.node y (List.mem_of_getElem? hxi)
  obtain ⟨p, hp, hcp⟩ := hA.seg hs hxi
  obtain ⟨s2, _, hc2, _⟩ := hnode.at hs
  have hgsz : gl.bytes.length ≤ 1073741824 := by rw [used_snoc] at hU; omega
  have hgn := (chain_get hW.chain (i := L0.length) (g := gl) (by rw [segs_snoc, List.getElem?_append_right (by unfold segs; rw [List.length_map]; exact Nat.le_refl _)]; unfold segs; simp))
  refine ⟨_, rfl, _, rfl, s, hA.at hs 3 _ rfl, p, hp, by rw [e1]; omega, by rw [e1]; omega, _, by rw [e1, Int.toNat_natCast]; exact hcp, _, rfl, (y.2.bytes.length : Int), hc2 3 _ rfl, limit, hA.at hs 2 _ rfl, ?_⟩
  by_cases c1 : (y.2.bytes.length : Int) < limit
  rotate_left
  · refine fresh (.inr ?_) _ (decide_eq_false c1)
    rw [hgx] at c1
    rw [used_snoc]; omega
  rw [decide_eq_true c1]
  unfold j3_wal_Log_write
  rw [if_pos rfl]
  refine ⟨_, rfl, s, hA.at hs 3 _ rfl, p, hp, by rw [e1]; omega, by rw [e1]; omega, _, by rw [e1, Int.toNat_natCast]; exact hcp, ?_⟩
  refine wframe_ok (tag := tag) (q := 14) (by decide) hr hrx (fun tag' σ' st => (h3.keep st (by simp)).read st.sep) fun s1 tag1 σ1 st1 r1 => ?_
  have st1 := st1 [14] (by simp)
  have hA1 := hA.keepS (st1.s (C := [14]) (by decide)) (by decide) (by decide)
  have hn1 := hA1.node y (List.mem_of_getElem? hxi)
  rw [hgx] at hn1
  refine lay_ok (tag := tag1) (b := y.1) (number := gl.number) (first := gl.first) (size := gl.bytes.length) (recs := gl.recs) (d := frame r) (r := r) g hA1.cell (hD.keep st1 (by nia)) hn1.r (by omega) hc0 hc1 (by rw [hf]; omega) hgsz (by omega) r1 (by omega) (h3.keep st1 (by decide)) (by omega) (fun hlt tag8 σ8 st8 => ?_) (fun hle ps8 tag8 σ8 st8 hD8 hf8 hS8 => ?_)
  · rw [hf] at hlt
    refine hno (by omega) safe _ tag8 σ8 ((st1.s (by decide)).trans (st8.s (by decide))) ⟨⟨s, xs, ps, hA1.keepS (st8.s (C := [0]) (by decide)) (by decide) (by decide), (hrow.keep st1 (by decide)).keep st8 (by decide), (hD.keep st1 (by nia)).keep st8 (by nia), hxs, hf⟩, hW, hU⟩ rfl (Nat.le_refl _)
  · obtain ⟨hW2, hrec2⟩ := LW.lay (r := r) hW hr hcnt
    rw [hf] at hle
    have hxsplit : ∃ xs0, xs = xs0 ++ [y] ∧ xs0.map (·.2) = segs L0 := by
      refine ⟨xs.dropLast, ?_, ?_⟩
      · have hne : xs ≠ [] := by intro e; rw [e] at hxl; simp at hxl
        have hlast : xs.getLast hne = y := by
          rw [List.getLast_eq_getElem]
          have : xs.length - 1 = L0.length := by omega
          simp only [this]; exact hy
        rw [← hlast]; exact (List.dropLast_concat_getLast hne).symm
      · rw [List.map_dropLast, hxs, segs_snoc, List.dropLast_concat]
    obtain ⟨xs0, hxe, hx0⟩ := hxsplit
    have hnd := hA.nd
    rw [hxe, List.map_append, List.nodup_append] at hnd
    have hyb : ∀ z ∈ xs0, z.1 ≠ y.1 := fun z hz => hnd.2.2 _ (List.mem_map.2 ⟨z, hz, rfl⟩) _ (by simp)
    have eb : (⟨gl.number, gl.first, gl.recs ++ [r]⟩ : Seg).bytes = gl.bytes ++ frame r := by unfold Seg.bytes; simp
    have hpt : ptrs (xs0 ++ [(y.1, (⟨gl.number, gl.first, gl.recs ++ [r]⟩ : Seg))]) = ptrs xs := by rw [hxe]; unfold ptrs; simp
    refine hok safe _ tag8 σ8 ((st1.s (by decide)).trans (st8.s (fun z hz => by simp only [layP, ra, rb] at hz; simp; omega))) ⟨⟨s, xs0 ++ [(y.1, ⟨gl.number, gl.first, gl.recs ++ [r]⟩)], ps8, ⟨hA1.cell.keepP st8 (by simp only [layP, ra, rb]; omega), ?_, ?_, ?_⟩, ?_, hD8, ?_, ?_⟩, hW2, ?_⟩ hrec2 (Nat.le_refl _) (.inl rfl) ?_
    · rw [hpt]; exact hA1.segs.keepP st8 (by simp only [layP, ra, rb]; omega)
    · intro z hz
      rcases List.mem_append.1 hz with hz | hz
      · have := hyb z hz
        exact (hA1.node z (by rw [hxe]; exact List.mem_append_left _ hz)).keepP st8 (by simp only [layP, ra, rb]; omega) (by simp only [layP, ra, rb]; omega) (by simp only [layP, ra, rb]; omega)
      · rw [List.mem_singleton.1 hz]
        show SegR tag8 σ8 y.1 gl.number gl.first (⟨gl.number, gl.first, gl.recs ++ [r]⟩ : Seg).bytes.length (gl.recs ++ [r])
        rw [eb, List.length_append]
        exact hS8
    · rw [List.map_append, List.nodup_append]
      exact ⟨hnd.1, by simp, fun u hu v hv => by simp at hv; rw [hv]; exact hnd.2.2 u hu _ (by simp)⟩
    · rw [hpt]; exact (hrow.keep st1 (by decide)).keepP st8 (by simp only [layP, ra, rb]; omega)
    · rw [List.map_append, hx0, segs_snoc]; rfl
    · rw [hf8, hf]
      exact app_last hW.chain (by omega)
    · rw [used_snoc, eb, List.length_append]
      rw [used_snoc] at hle
      omega
    · rw [used_snoc, eb, List.length_append, used_snoc]; omega
end Go.Proofs.YtfobjidchipdaaaGreatDoor.Wl
