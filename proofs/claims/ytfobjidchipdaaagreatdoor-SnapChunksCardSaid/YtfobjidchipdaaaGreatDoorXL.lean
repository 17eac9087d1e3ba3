/- SnB, SnC, SnD, CkF, SnE, SnF, GL5, SnG, CkG -/
import Derived.Test.YtfobjidchipdaaaGreatDoorXK
/- Snapshots, the walk: names, the manifest, a snapshot loaded. -/
namespace Go.Proofs.YtfobjidchipdaaaGreatDoor.Wi
open Go Go.Proofs.YtfobjidchipdaaaGreatDoor.SL
theorem Tail.del {tag : Nat → Nat} {σ : AH} {q b x : Nat} {s : Sl} {l : Str} (h : Tail tag σ q s l) (hb : tag b = x) (hq : q ≠ x) : Tail tag (SL.del σ b) q s l := by
  rcases h with h | ⟨g, cs, k, h1, h2, h3, h4⟩
  · exact .inl h
  · exact .inr ⟨g, cs, k, h1, h2, by unfold SL.del; rw [if_neg (fun e => hq (by rw [← h2, e, hb]))]; exact h3, h4⟩
theorem RdAt.del {tag : Nat → Nat} {σ : AH} {r A b x : Nat} {y : Rd} (h : RdAt tag σ r A y) (hb : tag b = x) (hr : r ≠ x) (h6 : 6 ≠ x) : RdAt tag (SL.del σ b) r A y := by
  obtain ⟨s, h1, h2, h3⟩ := h
  exact ⟨s, h1.del hb hr, h2.del hb h6, h3⟩
end Go.Proofs.YtfobjidchipdaaaGreatDoor.Wi
namespace Go.Proofs.YtfobjidchipdaaaGreatDoor.Sn
open Go Go.Proofs.YtfobjidchipdaaaGreatDoor.SL Go.Proofs.YtfobjidchipdaaaGreatDoor.G Go.Proofs.YtfobjidchipdaaaGreatDoor.Pa Go.Proofs.YtfobjidchipdaaaGreatDoor.Wi Go.Proofs.YtfobjidchipdaaaGreatDoor.Dk
set_option linter.unusedSimpArgs false
set_option linter.unusedVariables false
set_option maxRecDepth 100000
variable {B : World} {ro σ σ' : AH} {tag tag' : Nat → Nat}
theorem dec1 {k : Nat} (h : k < 10) : Lib.decDigits k = [UInt8.ofNat (48 + k)] := by rw [Lib.decDigits, dif_pos h]
/-- the file of the snapshot with the number k, the manifest's file, the one ahead of it -/
def dfile (k : Nat) : Str := [115, 46, 115, UInt8.ofNat (48 + k)]
def manN : Str := [115, 46, 109, 97, 110]
def tmpN : Str := [115, 46, 116, 109, 112]
def man (k : Nat) (d : Str) : Str := frame (nums [(k : Int), (d.length : Int), (crc d : Int)])
theorem rightS_ok {Q : Bool → AH → Prop} (hQ : Q true σ) : c_snap_rightName B ro (S [115]) σ Q := by
  refine snap_rightName_ok fun _ => ?_
  unfold f_snap_rightName
  rw [if_pos (by refine ⟨?_, by decide⟩; rw [show (⟨#[]⟩ : ByteArray) = S [] from rfl, S_inj]; simp)]
  refine trim_ok (cs := [97, 98, 99, 100, 101, 102, 103, 104, 105, 106, 107, 108, 109, 110, 111, 112, 113, 114, 115, 116, 117, 118, 119, 120, 121, 122, 48, 49, 50, 51, 52, 53, 54, 55, 56, 57, 45]) (by decide) (by decide) (by decide) ?_
  unfold j1_snap_rightName
  rw [show Lib.trimS [115] _ = [] from by decide]
  exact hQ
theorem dataFile_ok {k : Nat} {Q : ByteArray → AH → Prop} (g : Glob ro) (hk : k < 10) (hQ : Q (S (dfile k)) σ) : c_snap_dataFile B ro (S [115]) (k : Int) σ Q := by
  refine snap_dataFile_ok fun _ => ?_
  unfold f_snap_dataFile
  refine ⟨by decide, itoa_ok g (by omega) ⟨?_, ?_⟩⟩
  · rw [dec1 hk, show (⟨#[46, 115]⟩ : ByteArray) = S [46, 115] from rfl, S_append, S_size', S_size']; simp
  · rw [dec1 hk, show (⟨#[46, 115]⟩ : ByteArray) = S [46, 115] from rfl, S_append, S_append]; exact hQ
theorem rightN_nat {n : Nat} (h : n < 4611686018427387904) : rightN (n : Int) = true := by unfold rightN; simp; omega
theorem man_right {k : Nat} {d : Str} (hk : k < 4611686018427387904) (hd : d.length < 4611686018427387904) : [(k : Int), (d.length : Int), (crc d : Int)].all rightN = true := by
  have := crc_lt d
  simp [rightN_nat hk, rightN_nat hd, rightN_nat (n := crc d) (by omega)]
theorem man_len {k : Nat} {d : Str} (hk : k < 4611686018427387904) (hd : d.length < 4611686018427387904) : (nums [(k : Int), (d.length : Int), (crc d : Int)]).length ≤ 27 := by
  have := nums_len (man_right hk hd); simpa using this
theorem mbytes_ok {k q : Nat} {d : Str} {Q : Sl → AH → Prop} (hq : q ≠ 0 ∧ q ≠ 1 ∧ q ≠ 3 ∧ q ≠ 7) (hk : k < 4611686018427387904) (hd : d.length < 4611686018427387904) (hQ : ∀ s' tag' σ', Step [1, q] ro tag σ tag' σ' → Row tag' σ' q 5 s' ((man k d).map vU) → Q s' σ') : c_snap_manifest_bytes B ro (d.length : Int) (crc d : Int) (k : Int) σ Q := by
  refine snap_manifest_bytes_ok fun hs => ?_
  unfold f_snap_manifest_bytes
  refine nw_cells (tag := tag) 7 hs fun x tag1 σ1 st1 r1 => ?_
  obtain ⟨p, hp, hg⟩ := r1.ptr (st1 []).sep (by simp)
  cases hp
  refine ⟨_, hg 2 _ rfl, _, hg 0 _ rfl, _, hg 1 _ rfl, ?_⟩
  refine nw_cells (tag := tag1) 3 (st1 []).sep fun y tag2 σ2 st2 r2 => ?_
  refine numbers_ok (tag := tag2) (q := 1) (ns := [(k : Int), (d.length : Int), (crc d : Int)]) (st2 []).sep rfl (by simp) (fun tag' σ' st => (r2.keep st (by decide)).read st.sep) (fun h => by rw [man_right hk hd] at h; cases h) fun _ s3 tag3 σ3 st3 r3 => ?_
  have hl := man_len hk hd
  refine frame_ok (tag := tag3) (q := q) hq.1 st3.sep (by rw [r3.len, List.length_map]) (fun tag' σ' st => (r3.keep st (by simp)).read st.sep) (fun h => by omega) fun _ s4 tag4 σ4 st4 r4 => ?_
  exact hQ s4 tag4 σ4 ((st1 _).trans ((st2 _).trans ((st3.mono (by simp)).trans (st4 _ (by simp))))) r4
theorem unframe_man {k : Nat} {d : Str} (hk : k < 4611686018427387904) (hd : d.length < 4611686018427387904) : unframe (man k d) = (nums [(k : Int), (d.length : Int), (crc d : Int)], (man k d).length, 0) := by
  have := unframe_frame (p := nums [(k : Int), (d.length : Int), (crc d : Int)]) (by have := man_len hk hd; omega) []
  rw [List.append_nil] at this
  unfold man
  rw [this, frame_len]
theorem readManifest_ok {r T M : Nat} {cap : Int} {ps : Ps} {Q : Int → Int → Int → Bool → AH → Prop} (h : Disk tag σ r T M cap ps) (hr : r < 64) (hr0 : r ≠ 0) (hbl : ∀ p ∈ ps, p.2.2.b.length ≤ 140737488355328)
    (hno : ps.lookup manN = none → ∀ tag' σ', StepS [0, 7] ro tag σ tag' σ' → Q 0 0 0 false σ')
    (hyes : ∀ b k d n, ps.lookup manN = some (b, ⟨man k d, n⟩) → k < 4611686018427387904 → d.length < 4611686018427387904 → ∀ tag' σ', StepS [0, 7, 8, 31] ro tag σ tag' σ' → Q (d.length : Nat) (crc d : Nat) (k : Nat) true σ')
    (hgood : ps.lookup manN = none ∨ ∃ b k d n, ps.lookup manN = some (b, ⟨man k d, n⟩) ∧ k < 4611686018427387904 ∧ d.length < 4611686018427387904) : c_snap_readManifest B ro (some ⟨T, 0, none⟩) (S [115]) σ Q := by
  refine snap_readManifest_ok fun hs => ?_
  unfold f_snap_readManifest
  refine nw_cells (tag := tag) 7 hs fun x tag1 σ1 st1 r1 => ?_
  refine ⟨by decide, ?_⟩
  rw [show (⟨#[46, 109, 97, 110]⟩ : ByteArray) = S [46, 109, 97, 110] from rfl, S_append]
  refine read_ok (n := manN) (h.keep (st1 []) (by simp)) hr hr0 (st1 []).sep hbl ?_ ?_
  · rintro e tag2 σ2 he st2
    have hne : ¬ e = 0 := by rcases he with ⟨_, rfl⟩ | ⟨_, _, rfl⟩ <;> decide
    rw [if_pos hne]
    refine (r1.keep st2 (by decide)).stAll st2.sep rfl (by simp [storable]) fun σ3 st3 r3 => ?_
    obtain ⟨p, hp, hg⟩ := r3.ptr st3.sep (by simp)
    cases hp
    refine ⟨0, 0, 0, cellsAt_of 0 fun j v hj => by have := hg j v hj; rwa [Nat.mul_one, ← Nat.zero_add j] at this, ?_⟩
    refine hno ?_ tag2 σ3 (((st1 []).s (by simp)).trans ((st2.s (by decide)).trans (st3.s (by decide))))
    rcases he with ⟨h1, _⟩ | ⟨_, h2, _⟩
    · exact absurd h1 (by decide)
    · exact h2
  · intro _ b f hb s2 tag2 σ2 st2 r2
    rw [if_neg (by decide)]
    obtain ⟨b', k, d, n, hlk, hk, hd⟩ := hgood.resolve_left (by rw [hb]; simp)
    rw [hb] at hlk
    obtain ⟨rfl, rfl⟩ : b = b' ∧ f = ⟨man k d, n⟩ := by simpa using hlk
    have hun := unframe_man hk hd
    have hml := man_len hk hd
    have hmn : (man k d).length ≤ 35 := by unfold man; rw [frame_len]; omega
    have r2 : Row tag2 σ2 6 5 s2 ((man k d).map vU) := r2
    have hsl : s2.len = (man k d).length := by rw [r2.len, List.length_map]
    refine unframe_ok (tag := tag2) (k := 0) (l := man k d) st2.sep (by have := r2.capAt; rw [List.length_map] at this; omega) (Nat.zero_le _) (by omega) (fun tag' σ' st => (r2.keep st (by simp)).read st.sep) ?_ ?_
    · intro he; rw [List.drop_zero, hun] at he; exact absurd rfl he
    · intro _ s3 tag3 σ3 st3 r3
      rw [List.drop_zero, hun] at r3 ⊢
      rw [if_neg (by simp [hsl])]
      have r3 : Row tag3 σ3 6 5 s3 ((nums [(k : Int), (d.length : Int), (crc d : Int)]).map vU) := r3
      have hp1 := r3.read (st3 []).sep
      refine newReader_ok (tag := tag3) (r := 31) hp1 (st3 []).sep (by omega) fun A tag4 σ4 st4 rd4 => ?_
      refine rdNum_ok rd4 (by decide) (st4 []).sep fun σ5 st5 rd5 => ?_
      have e1 : nums [(k : Int), (d.length : Int), (crc d : Int)] = vput k ++ (vput d.length ++ (vput (crc d) ++ [])) := by
        unfold nums; simp
      have hc := crc_lt d
      rw [e1, rnum_put hk] at rd5 ⊢
      refine nw_cells (tag := tag4) 8 st5.sep fun y tag6 σ6 st6 r6 => ?_
      refine r6.stAll (st6 []).sep rfl (by simp [storable]) fun σ7 st7 r7 => ?_
      have rd7 := (rd5.keep (st6 []) (by simp) (by simp)).keep st7 (by decide) (by decide)
      refine rdNum_ok rd7 (by decide) st7.sep fun σ8 st8 rd8 => ?_
      rw [rnum_put hd] at rd8 ⊢
      refine rdNum_ok rd8 (by decide) st8.sep fun σ9 st9 rd9 => ?_
      rw [rnum_put (by omega)] at rd9 ⊢
      have r9 := (r7.keep st8 (by decide)).keep st9 (by decide)
      show stN ((⟨y, 0, none⟩ : Addr).add (0 * 1)) _ _ _ _
      refine r9.st st9.sep rfl (by simp) rfl fun σ10 st10 r10 => ?_
      show stN ((⟨y, 0, none⟩ : Addr).add (1 * 1)) _ _ _ _
      refine r10.st st10.sep rfl (by simp) rfl fun σ11 st11 r11 => ?_
      have hs11 := st11.sep
      have rd11 := (rd9.keep st10 (by decide) (by decide)).keep st11 (by decide) (by decide)
      have st47 : StepS [0, 7, 8, 31] ro tag1 σ1 tag6 σ11 := (st2.s (by decide)).trans (((st3 []).s (by simp)).trans (((st4 []).s (by simp)).trans ((st5.s (by decide)).trans (((st6 []).s (by simp)).trans ((st7.s (by decide)).trans ((st8.s (by decide)).trans ((st9.s (by decide)).trans ((st10.s (by decide)).trans (st11.s (by decide))))))))))
      have stR : Step [0, 8, 31] ro tag1 σ1 tag6 σ11 := (st2.mono (by decide)).trans ((st3 _).trans ((st4 _).trans ((st5.mono (by decide)).trans ((st6 _).trans ((st7.mono (by decide)).trans ((st8.mono (by decide)).trans ((st9.mono (by decide)).trans ((st10.mono (by decide)).trans (st11.mono (by decide))))))))))
      have rx := r1.keep stR (by decide)
      obtain ⟨tY, hY⟩ := r11.tagOf
      refine lent_block y ?_
      have hsL : SL.Sep (join ro (SL.one σ11 y)) (SL.del σ11 y) := hs11.lent
      have cY : ∀ τ i v, [Value.int .i64 (d.length : Nat), .int .i64 (crc d : Nat), .int .i64 (k : Nat)][i]? = some v → acell (join ro (SL.one σ11 y)) τ ((⟨y, 0, none⟩ : Addr).add i) = some v := fun τ i v hv => by
        have := r11.lend hs11 (τ := τ) (i := i) (v := v) hv
        rwa [Nat.mul_one] at this
      refine ⟨(d.length : Nat), (crc d : Nat), (k : Nat), cellsAt_of 0 fun i v hv => by rw [Nat.zero_add]; exact cY _ i v hv, ?_⟩
      refine rerr_ok (rd11.del tY (by decide) (by decide)) hsL ?_
      rw [if_pos rfl]
      refine left_ok (rd11.del tY (by decide) (by decide)) hsL ?_
      refine (rx.del tY (by decide)).stAll hsL rfl (by simp [storable]) fun σ12 st12 r12 => ?_
      intro hdis
      have stB := st12.back hs11 hdis hY
      have r13 := r12.back (r' := tag6 y) hdis hY
      unfold j14_snap_readManifest
      obtain ⟨p, hp, hg⟩ := r13.ptr stB.sep (by simp)
      cases hp
      refine ⟨_, _, _, cellsAt_of 0 fun j v hj => by have := hg j v hj; rwa [Nat.mul_one, ← Nat.zero_add j] at this, ?_⟩
      exact hyes b k d n hb hk hd _ _ (((st1 []).s (by simp)).trans (st47.trans (stB.s (by decide))))
end Go.Proofs.YtfobjidchipdaaaGreatDoor.Sn

/- Snapshots, the walk: Load; which files are data; what was begun is cleared. -/
namespace Go.Proofs.YtfobjidchipdaaaGreatDoor.Sn
open Go Go.Proofs.YtfobjidchipdaaaGreatDoor.SL Go.Proofs.YtfobjidchipdaaaGreatDoor.G Go.Proofs.YtfobjidchipdaaaGreatDoor.Pa Go.Proofs.YtfobjidchipdaaaGreatDoor.Wi Go.Proofs.YtfobjidchipdaaaGreatDoor.Dk
set_option linter.unusedSimpArgs false
set_option linter.unusedVariables false
set_option maxRecDepth 100000
variable {B : World} {ro σ σ' : AH} {tag tag' : Nat → Nat}
theorem dname_dfile {k : Nat} (h : k < 10) : dName (dfile k) = true := by
  have : ∀ k, k < 10 → dName (dfile k) = true := by decide
  exact this k h
/-- what there is to be loaded -/
structure SnapFs (k : Nat) (d : Str) (fs : Fs) : Prop where
  k10 : k < 10
  dlen : d.length ≤ 1048576
  mn : fs.lookup manN = some ⟨man k d, (man k d).length⟩
  data : fs.lookup (dfile k) = some ⟨d, d.length⟩
  keys : ∀ p ∈ fs, p.1 = manN ∨ p.1 = dfile k
  len : fs.length ≤ 2
def StFs (o : Option (Nat × Str)) (fs : Fs) : Prop := match o with
  | none => fs = []
  | some (k, d) => SnapFs k d fs
theorem SnapFs.lookups {k : Nat} {d : Str} {ps : Ps} (h : SnapFs k d (pfs ps)) : (∃ b, ps.lookup manN = some (b, ⟨man k d, (man k d).length⟩)) ∧ ∃ b, ps.lookup (dfile k) = some (b, ⟨d, d.length⟩) := by
  have h1 := h.mn
  have h2 := h.data
  rw [pfs_lookup] at h1 h2
  obtain ⟨⟨b, f⟩, e1, e2⟩ := Option.map_eq_some_iff.1 h1
  obtain ⟨⟨c, f'⟩, e3, e4⟩ := Option.map_eq_some_iff.1 h2
  simp only at e2 e4
  subst e2 e4
  exact ⟨⟨b, e1⟩, ⟨c, e3⟩⟩
theorem man35 {k : Nat} {d : Str} (hk : k < 10) (hd : d.length ≤ 1048576) : (man k d).length ≤ 35 := by
  have := man_len (k := k) (d := d) (by omega) (by omega)
  unfold man; rw [frame_len]; omega
theorem SnapFs.blen {k : Nat} {d : Str} {ps : Ps} (h : SnapFs k d (pfs ps)) (hn : (ps.map (·.1)).Nodup) : ∀ p ∈ ps, p.2.2.b.length ≤ 1048576 := by
  intro p hp
  have hl := lookup_mem hn (k := p.1) (x := p.2) hp
  obtain ⟨⟨b, e1⟩, c, e2⟩ := h.lookups
  have hk : (p.1, p.2.2) ∈ pfs ps := List.mem_map.2 ⟨p, hp, rfl⟩
  rcases h.keys _ hk with e | e
  · simp only at e; rw [e] at hl; rw [hl] at e1; rw [Option.some.inj e1]
    have := man35 h.k10 h.dlen; simp only; omega
  · simp only at e; rw [e] at hl; rw [hl] at e2; rw [Option.some.inj e2]; exact h.dlen
theorem StFs.blen {o : Option (Nat × Str)} {ps : Ps} (h : StFs o (pfs ps)) (hn : (ps.map (·.1)).Nodup) : ∀ p ∈ ps, p.2.2.b.length ≤ 1048576 := by
  cases o with
  | none =>
    intro p hp
    have : (p.1, p.2.2) ∈ pfs ps := List.mem_map.2 ⟨p, hp, rfl⟩
    rw [show pfs ps = [] from h] at this; cases this
  | some o => exact SnapFs.blen h hn
theorem load_ok {r T M : Nat} {cap : Int} {ps : Ps} {o : Option (Nat × Str)} {Q : Int → Sl → Bool → Int → AH → Prop} (g : Glob ro) (h : Disk tag σ r T M cap ps) (hr : r < 64) (hr0 : r ∉ [0, 6, 7, 8, 9, 31]) (hS : StFs o (pfs ps))
    (hno : o = none → ∀ tag' σ', StepS [0, 7, 8, 9, 31] ro tag σ tag' σ' → Q 0 ⟨none, 0, 0⟩ false 0 σ')
    (hyes : ∀ k d, o = some (k, d) → ∀ s' tag' σ', StepS [0, 7, 8, 9, 31] ro tag σ tag' σ' → Row tag' σ' 6 5 s' (d.map vU) → Q (k : Nat) s' true 0 σ') : c_snap_Load B ro (some ⟨T, 0, none⟩) (S [115]) σ Q := by
  refine snap_Load_ok fun hs => ?_
  unfold f_snap_Load
  simp only [List.mem_cons, List.not_mem_nil, or_false, not_or] at hr0
  refine rightS_ok ?_
  rw [if_neg (by simp)]
  have hbl := hS.blen h.keys
  have hmod : r % 64 = r := Nat.mod_eq_of_lt hr
  refine readManifest_ok h hr hr0.1 (fun p hp => by have := hbl p hp; omega) ?_ ?_ ?_
  · intro hm tag1 σ1 st1
    refine nw_cells (tag := tag1) 9 st1.sep fun x tag2 σ2 st2 r2 => ?_
    refine r2.stAll (st2 []).sep rfl (by simp [storable]) fun σ3 st3 r3 => ?_
    rw [if_pos (by simp)]
    refine hno ?_ tag2 σ3 ((st1.mono (by decide)).trans (((st2 []).s (by simp)).trans (st3.s (by decide))))
    cases o with
    | none => rfl
    | some x => obtain ⟨⟨b, e⟩, _⟩ := SnapFs.lookups (show SnapFs x.1 x.2 (pfs ps) from hS); rw [e] at hm; cases hm
  · intro b k d n hlk hk hd tag1 σ1 st1
    cases o with
    | none =>
      have : pfs ps = [] := hS
      have hnil : ps = [] := by cases ps with
        | nil => rfl
        | cons p ps => cases this
      rw [hnil] at hlk; cases hlk
    | some x =>
      obtain ⟨k', d'⟩ := x
      have hF : SnapFs k' d' (pfs ps) := hS
      obtain ⟨⟨b1, e1⟩, b2, e2⟩ := hF.lookups
      rw [hlk] at e1
      have ek : (k : Int) = (k' : Int) ∧ (d.length : Int) = d'.length ∧ (crc d : Int) = crc d' := by
        have hm : man k d = man k' d' := by have := Option.some.inj e1; simp at this; exact this.2.1
        have u1 := congrArg unframe hm
        rw [unframe_man hk hd, unframe_man (by have := hF.k10; omega) (by have := hF.dlen; omega)] at u1
        have u2 := congrArg Prod.fst u1
        simp only at u2
        have c1 := crc_lt d
        have c2 := crc_lt d'
        have hF1 := hF.k10
        have hF2 := hF.dlen
        have e1 : ∀ a b c : Nat, nums [(a : Int), (b : Int), (c : Int)] = vput a ++ (vput b ++ (vput c ++ [])) := fun a b c => by unfold nums; simp
        rw [e1, e1] at u2
        have v1 : rnum ⟨_, 0⟩ = rnum ⟨_, 0⟩ := congrArg (fun l => rnum ⟨l, 0⟩) u2
        rw [rnum_put hk, rnum_put (by omega)] at v1
        have w1 := (Prod.mk.inj v1).1
        have w2 := (Rd.mk.inj (Prod.mk.inj v1).2).1
        have v2 : rnum ⟨_, 0⟩ = rnum ⟨_, 0⟩ := congrArg (fun l => rnum ⟨l, 0⟩) w2
        rw [rnum_put hd, rnum_put (by omega)] at v2
        have w3 := (Prod.mk.inj v2).1
        have w4 := (Rd.mk.inj (Prod.mk.inj v2).2).1
        have v3 : rnum ⟨_, 0⟩ = rnum ⟨_, 0⟩ := congrArg (fun l => rnum ⟨l, 0⟩) w4
        rw [rnum_put (by omega), rnum_put (by omega)] at v3
        have w5 := (Prod.mk.inj v3).1
        omega
      rw [ek.1, ek.2.1, ek.2.2]
      have h1 : Disk tag1 σ1 r T M cap ps := by
        obtain ⟨R, hR, st⟩ := st1
        exact h.keep st fun x hx => by have := hR x hx; simp at this; omega
      refine nw_cells (tag := tag1) 9 st1.sep fun x tag2 σ2 st2 r2 => ?_
      refine r2.stAll (st2 []).sep rfl (by simp [storable]) fun σ3 st3 r3 => ?_
      rw [if_neg (by simp)]
      obtain ⟨p, hp, hg⟩ := r3.ptr st3.sep (by simp)
      cases hp
      refine ⟨_, hg 2 _ rfl, ?_⟩
      refine dataFile_ok g hF.k10 ?_
      have h3 := (h1.keep (st2 []) (by simp)).keep st3 (by simp; omega)
      refine read_ok (n := dfile k') h3 hr hr0.1 st3.sep (fun p hp => by have := hbl p hp; omega) ?_ ?_
      · rintro e tag4 σ4 he st4
        exfalso
        rcases he with ⟨h1, _⟩ | ⟨_, h2, _⟩
        · rw [dname_dfile hF.k10] at h1; cases h1
        · rw [e2] at h2; cases h2
      · intro _ b f hb s4 tag4 σ4 st4 r4
        rw [e2] at hb
        obtain ⟨rfl, rfl⟩ : b2 = b ∧ ⟨d', d'.length⟩ = f := by simpa using hb
        have r4 : Row tag4 σ4 6 5 s4 (d'.map vU) := r4
        have rx := r3.keep st4 (by decide)
        have hs4 := st4.sep
        obtain ⟨tX, hX⟩ := rx.tagOf
        refine lent_block x ?_
        have hsL : SL.Sep (join ro (SL.one σ4 x)) (SL.del σ4 x) := hs4.lent
        have cX : ∀ τ i v, [Value.int .i64 (d'.length : Nat), .int .i64 (crc d' : Nat), .int .i64 (k' : Nat)][i]? = some v → acell (join ro (SL.one σ4 x)) τ ((⟨x, 0, none⟩ : Addr).add i) = some v := fun τ i v hv => by
          have := rx.lend hs4 (τ := τ) (i := i) (v := v) hv
          rwa [Nat.mul_one] at this
        rw [if_neg (by simp)]
        refine ⟨(d'.length : Nat), (crc d' : Nat), cellsAt_of 0 fun i v hv => ?_, ?_⟩
        · rw [Nat.zero_add]
          refine cX _ i v ?_
          match i, hv with
          | 0, hv => exact hv
          | 1, hv => exact hv
        · have hd' := hF.dlen
          refine digestOf_ok (tag := tag4) (l := d') (fun tag' σ' st => ((r4.del tX (by decide)).keep st (by simp)).read st.sep) (by omega) fun tag5 σ5 st5 => ?_
          refine ne87 ⟨_, rfl, ?_⟩
          intro hdis
          have stB := st5.back hs4 hdis hX
          have r6 := rx.keep stB (by decide)
          unfold j9_snap_Load
          rw [if_neg (by simp)]
          obtain ⟨p, hp, hg⟩ := r6.ptr stB.sep (by simp)
          cases hp
          refine ⟨_, hg 2 _ rfl, ?_⟩
          exact hyes k' d' rfl s4 _ _ ((st1.mono (by decide)).trans (((st2 []).s (by simp)).trans ((st3.s (by decide)).trans ((st4.s (by decide)).trans (stB.s (by decide)))))) (r4.keep stB (by decide))
  · cases o with
    | none =>
      have : pfs ps = [] := hS
      have hnil : ps = [] := by cases ps with
        | nil => rfl
        | cons p ps => cases this
      rw [hnil]; exact .inl rfl
    | some x =>
      have hF : SnapFs x.1 x.2 (pfs ps) := hS
      obtain ⟨⟨b1, e1⟩, b2, e2⟩ := hF.lookups
      exact .inr ⟨b1, x.1, x.2, _, e1, by have := hF.k10; omega, by have := hF.dlen; omega⟩
theorem isData_yes {k : Nat} {Q : Bool → AH → Prop} (g : Glob ro) (hk : k < 10) (hQ : Q true σ) : c_snap_isData B ro (S [115]) (S (dfile k)) σ Q := by
  refine snap_isData_ok fun _ => ?_
  unfold f_snap_isData
  refine ⟨by decide, ?_⟩
  rw [show (⟨#[46, 115]⟩ : ByteArray) = S [46, 115] from rfl, S_append]
  refine Zt.cutPrefix_ok ?_
  have e : Zt.cutPre (dfile k) ([115] ++ [46, 115]) = ([UInt8.ofNat (48 + k)], true) := by
    unfold Zt.cutPre
    rw [if_pos (by rfl)]; rfl
  rw [e]
  rw [if_neg (by simp)]
  have ha : ∀ k, k < 10 → Lib.atoi [UInt8.ofNat (48 + k)] = some (k : Int) := by decide
  refine atoi_ok (by simp) (ha k hk) ?_
  refine nil_eq ⟨true, rfl, ?_⟩
  rw [if_pos ⟨⟨rfl, by omega⟩, by omega⟩]
  refine itoa_ok g (by omega) ?_
  unfold j6_snap_isData
  rw [dec1 hk]
  rw [decide_eq_true rfl]
  exact hQ
theorem isData_man {Q : Bool → AH → Prop} (hQ : Q false σ) : c_snap_isData B ro (S [115]) (S manN) σ Q := by
  refine snap_isData_ok fun _ => ?_
  unfold f_snap_isData
  refine ⟨by decide, ?_⟩
  rw [show (⟨#[46, 115]⟩ : ByteArray) = S [46, 115] from rfl, S_append]
  refine Zt.cutPrefix_ok ?_
  rw [show Zt.cutPre manN ([115] ++ [46, 115]) = (manN, false) from by decide]
  rw [if_pos (by simp)]
  exact hQ
theorem clear_ok {r T M x13 x14 x4 : Nat} {cap : Int} {ps : Ps} {a c : Str} {Q : AH → Prop} (h : Disk tag σ r T M cap ps) (hr : r < 64) (hr0 : r ∉ [0, 3, 40, 41, 42, 43]) (ha : dName a = true) (hc : dName c = true)
    (h1 : Row tag σ 40 9 ⟨some ⟨x13, 0, none⟩, 1, 1⟩ [Pa.vS a]) (h2 : Row tag σ 41 9 ⟨some ⟨x14, 0, none⟩, 1, 1⟩ [Pa.vS c]) (h3 : Row tag σ 42 26 ⟨some ⟨x4, 0, none⟩, 1, 1⟩ [.pointer (some ⟨T, 0, none⟩)])
    (hQ : ∀ tag' σ', StepS [0, r] ro tag σ tag' σ' → Disk tag' σ' r T M cap (adel (adel ps a) c) → Q σ') : c_snap_Save_c1 B ro ⟨x13, 0, none⟩ ⟨x14, 0, none⟩ ⟨x4, 0, none⟩ σ Q := by
  refine snap_Save_c1_ok fun hs => ?_
  unfold f_snap_Save_c1
  simp only [List.mem_cons, List.not_mem_nil, or_false, not_or] at hr0
  refine ⟨S a, Row.cell1 h1 hs, S c, Row.cell1 h2 hs, ?_⟩
  refine nw_cells (tag := tag) 43 hs fun x tag1 σ1 st1 r1 => ?_
  obtain ⟨p, hp, hg⟩ := r1.ptr (st1 []).sep (by simp)
  cases hp
  refine lfpD.intro ?_
  unfold l4_snap_Save_c1
  rw [if_pos (by simp)]
  refine ⟨_, rfl, by omega, by simp, S a, hg 0 _ rfl, _, Row.cell1 (h3.keep (st1 []) (by simp)) (st1 []).sep, ?_⟩
  refine nw_cells (tag := tag1) 3 (st1 []).sep fun y tag2 σ2 st2 r2 => ?_
  refine remove_ok (q := 3) (n := a) ((h.keep (st1 []) (by simp)).keep (st2 []) (by simp)) hr hr0.1 r2 (by decide) ha fun e tag3 σ3 st3 hd3 => ?_
  have sA : StepS [0, r] ro tag1 σ1 tag3 σ3 := ((st2 []).s (by simp)).trans st3
  have r3 := r1.keepS sA (by simp; omega)
  obtain ⟨p, hp, hg⟩ := r3.ptr st3.sep (by simp)
  cases hp
  refine lfpD.intro ?_
  rw [show IntKind.i64.wrap (0 + 1) = 1 from by decide, if_pos (by simp)]
  refine ⟨_, rfl, by omega, by simp, S c, hg 1 _ rfl, _, Row.cell1 ((h3.keep (st1 []) (by simp)).keepS sA (by simp; omega)) st3.sep, ?_⟩
  refine nw_cells (tag := tag3) 3 st3.sep fun z tag4 σ4 st4 r4 => ?_
  refine remove_ok (q := 3) (n := c) (hd3.keep (st4 []) (by simp)) hr hr0.1 r4 (by decide) hc fun e tag5 σ5 st5 hd5 => ?_
  refine lfpD.intro ?_
  rw [show IntKind.i64.wrap (1 + 1) = 2 from by decide, if_neg (by simp)]
  exact hQ tag5 σ5 (((st1 []).s (by simp)).trans (sA.trans (((st4 []).s (by simp)).trans st5))) hd5
end Go.Proofs.YtfobjidchipdaaaGreatDoor.Sn

/- Snapshots: files put, made safe, renamed, cleared: what is there behind it (pure). -/
namespace Go.Proofs.YtfobjidchipdaaaGreatDoor.Sn
open Go Go.Proofs.YtfobjidchipdaaaGreatDoor.SL Go.Proofs.YtfobjidchipdaaaGreatDoor.G Go.Proofs.YtfobjidchipdaaaGreatDoor.Pa Go.Proofs.YtfobjidchipdaaaGreatDoor.Wi Go.Proofs.YtfobjidchipdaaaGreatDoor.Dk
set_option linter.unusedSimpArgs false
set_option linter.unusedVariables false
theorem sub_len {α : Type} [DecidableEq α] : ∀ {l L : List α}, l.Nodup → (∀ x ∈ l, x ∈ L) → l.length ≤ L.length := by
  intro l
  induction l with
  | nil => intro L _ _; simp
  | cons x l ih =>
    intro L hn hs
    rw [List.nodup_cons] at hn
    have hx := hs x (by simp)
    have := ih (L := L.erase x) hn.2 fun y hy => (List.mem_erase_of_ne (fun e => hn.1 (by rw [← e]; exact hy))).2 (hs y (by simp [hy]))
    rw [List.length_erase_of_mem hx] at this
    have := List.length_pos_of_mem hx
    simp; omega
theorem adel_app {β : Type} {ps : List (Str × β)} {k : Str} {v : β} (h : ps.lookup k = none) : adel (ps ++ [(k, v)]) k = ps := by
  induction ps with
  | nil => simp [adel]
  | cons p ps ih =>
    obtain ⟨k', v'⟩ := p
    rw [List.lookup_cons] at h
    by_cases e : k = k'
    · subst e; simp at h
    · rw [show (k == k') = false by simpa using e] at h
      rw [List.cons_append]
      unfold adel
      rw [if_neg e, ih h]
theorem fapp_new {fs : Fs} {n d : Str} (h : fs.lookup n = none) : fapp fs n d = fs ++ [(n, ⟨d, 0⟩)] := by
  unfold fapp; rw [h]; exact aput_new h
theorem look_app {β : Type} {ps : List (Str × β)} {k : Str} {v : β} (h : ps.lookup k = none) (n : Str) : (ps ++ [(k, v)]).lookup n = if n = k then some v else ps.lookup n := by
  rw [← aput_new h, lookup_aput]
theorem name_ne {k : Nat} (h : k < 10) : dfile k ≠ manN ∧ dfile k ≠ tmpN := by
  have : ∀ k, k < 10 → dfile k ≠ manN ∧ dfile k ≠ tmpN := by decide
  exact this k h
theorem dfile_inj {k k' : Nat} (h : k < 10) (h' : k' < 10) (e : dfile k = dfile k') : k = k' := by
  have : ∀ k, k < 10 → ∀ k', k' < 10 → dfile k = dfile k' → k = k' := by decide
  exact this k h k' h' e
theorem man_ne_tmp : manN ≠ tmpN := by decide
/-- what a state lets a new snapshot find -/
theorem StFs.fresh {o : Option (Nat × Str)} {fs : Fs} {k : Nat} (h : StFs o fs) (hk : k < 10) (ho : ∀ k0 d0, o = some (k0, d0) → k0 < k) : fs.lookup (dfile k) = none ∧ fs.lookup tmpN = none := by
  cases o with
  | none => rw [show fs = [] from h]; exact ⟨rfl, rfl⟩
  | some x =>
    obtain ⟨k0, d0⟩ := x
    have hF : SnapFs k0 d0 fs := h
    have hlt := ho k0 d0 rfl
    constructor
    · refine lookup_key.2 fun hm => ?_
      obtain ⟨p, hp, e⟩ := List.mem_map.1 hm
      rcases hF.keys p hp with h | h
      · rw [h] at e; exact (name_ne hk).1 e.symm
      · rw [h] at e; have := dfile_inj hF.k10 hk e; omega
    · refine lookup_key.2 fun hm => ?_
      obtain ⟨p, hp, e⟩ := List.mem_map.1 hm
      rcases hF.keys p hp with h | h
      · rw [h] at e; exact man_ne_tmp e
      · rw [h] at e; exact (name_ne hF.k10).2 e
theorem used_app (fs : Fs) (n : Str) (f : Fl) : used (fs ++ [(n, f)]) = used fs + f.b.length := by
  unfold used; rw [List.map_append, List.sum_append]; simp
theorem used_len {fs : Fs} {N : Nat} (h : ∀ p ∈ fs, p.2.b.length ≤ N) : used fs ≤ fs.length * N := by
  induction fs with
  | nil => simp [used]
  | cons p fs ih =>
    have h1 := h p (by simp)
    have h2 := ih fun q hq => h q (by simp [hq])
    unfold used at *
    rw [List.map_cons, List.sum_cons, List.length_cons, Nat.add_mul]; omega
theorem StFs.used {o : Option (Nat × Str)} {ps : Ps} (h : StFs o (pfs ps)) (hn : (ps.map (·.1)).Nodup) : used (pfs ps) ≤ 2097152 ∧ ps.length ≤ 2 := by
  have hb := h.blen hn
  have hl : ps.length ≤ 2 := by
    cases o with
    | none => have : (pfs ps).length = 0 := by rw [show pfs ps = [] from h]; rfl
              unfold pfs at this; simp at this; simp [this]
    | some x => have := SnapFs.len (show SnapFs x.1 x.2 (pfs ps) from h); unfold pfs at this; simpa using this
  have := used_len (fs := pfs ps) (N := 1048576) fun p hp => by
    obtain ⟨q, hq, rfl⟩ := List.mem_map.1 hp
    exact hb q hq
  have h3 : (pfs ps).length = ps.length := by unfold pfs; simp
  rw [h3] at this
  have : ps.length * 1048576 ≤ 2 * 1048576 := Nat.mul_le_mul_right _ hl
  exact ⟨by omega, hl⟩
/-- behind the renaming: the manifest, the data, and nothing but files of snapshots -/
structure Mid (k : Nat) (d : Str) (o : Option (Nat × Str)) (fs : Fs) : Prop where
  mn : fs.lookup manN = some ⟨man k d, (man k d).length⟩
  data : fs.lookup (dfile k) = some ⟨d, d.length⟩
  keys : ∀ p ∈ fs, p.1 = manN ∨ p.1 = dfile k ∨ ∃ k0 d0, o = some (k0, d0) ∧ p.1 = dfile k0
theorem mid_of {o : Option (Nat × Str)} {fs fs2 fs3 : Fs} {k : Nat} {d : Str} (h : StFs o fs) (hn : (fs.map (·.1)).Nodup) (hk : k < 10) (ho : ∀ k0 d0, o = some (k0, d0) → k0 < k) (h2 : fs2 = fs ++ [(dfile k, ⟨d, 0⟩)] ++ [(tmpN, ⟨man k d, 0⟩)]) (h3 : fs3 = fsync fs2 [dfile k, tmpN]) :
    fs3.lookup tmpN = some ⟨man k d, (man k d).length⟩ ∧ Mid k d o (aput (adel fs3 tmpN) manN ⟨man k d, (man k d).length⟩) := by
  obtain ⟨f1, f2⟩ := h.fresh hk ho
  have hne := name_ne hk
  have g1 : (fs ++ [(dfile k, (⟨d, 0⟩ : Fl))]).lookup tmpN = none := by rw [look_app f1, if_neg (fun e => hne.2 e.symm)]; exact f2
  have l2 : ∀ n, fs2.lookup n = if n = tmpN then some ⟨man k d, 0⟩ else if n = dfile k then some ⟨d, 0⟩ else fs.lookup n := fun n => by rw [h2, look_app g1, look_app f1]
  have l3 : ∀ n, fs3.lookup n = if n = tmpN then some ⟨man k d, (man k d).length⟩ else if n = dfile k then some ⟨d, d.length⟩ else fs.lookup n := fun n => by
    have e1 : sync1 fs2 (dfile k) = aput fs2 (dfile k) ⟨d, d.length⟩ := by
      unfold sync1; rw [l2, if_neg hne.2, if_pos rfl]
    have e2 : sync1 (aput fs2 (dfile k) ⟨d, d.length⟩) tmpN = aput (aput fs2 (dfile k) ⟨d, d.length⟩) tmpN ⟨man k d, (man k d).length⟩ := by
      unfold sync1; rw [lookup_aput, if_neg (fun e => hne.2 e.symm), l2, if_pos rfl]
    rw [h3, show fsync fs2 [dfile k, tmpN] = sync1 (sync1 fs2 (dfile k)) tmpN from rfl, e1, e2, lookup_aput, lookup_aput, l2]
    by_cases a : n = tmpN
    · simp [a]
    · simp only [if_neg a]
      by_cases b : n = dfile k
      · simp only [if_pos b]
      · simp only [if_neg b]
  have k3 : fs3.map (·.1) = fs.map (·.1) ++ [dfile k, tmpN] := by
    have e1 : sync1 fs2 (dfile k) = aput fs2 (dfile k) ⟨d, d.length⟩ := by
      unfold sync1; rw [l2, if_neg hne.2, if_pos rfl]
    have e2 : sync1 (aput fs2 (dfile k) ⟨d, d.length⟩) tmpN = aput (aput fs2 (dfile k) ⟨d, d.length⟩) tmpN ⟨man k d, (man k d).length⟩ := by
      unfold sync1; rw [lookup_aput, if_neg (fun e => hne.2 e.symm), l2, if_pos rfl]
    rw [h3, show fsync fs2 [dfile k, tmpN] = sync1 (sync1 fs2 (dfile k)) tmpN from rfl, e1, e2]
    rw [aput_keys (x := ⟨man k d, 0⟩) (by rw [lookup_aput, if_neg (fun e => hne.2 e.symm), l2, if_pos rfl]), aput_keys (x := ⟨d, 0⟩) (by rw [l2, if_neg hne.2, if_pos rfl]), h2]
    simp
  have n3 : (fs3.map (·.1)).Nodup := by
    rw [k3, List.nodup_append]
    refine ⟨hn, by simp; exact hne.2, fun x hx y hy e => ?_⟩
    simp at hy
    rcases hy with rfl | rfl
    · exact lookup_key.1 f1 (by rw [← e]; exact hx)
    · exact lookup_key.1 f2 (by rw [← e]; exact hx)
  refine ⟨by rw [l3, if_pos rfl], ?_, ?_, fun p hp => ?_⟩
  · rw [lookup_aput, if_pos rfl]
  · rw [lookup_aput, if_neg hne.1, lookup_adel n3, if_neg hne.2, l3, if_neg hne.2, if_pos rfl]
  · rcases mem_aput (adel_nodup n3) hp with rfl | ⟨hp, _⟩
    · exact .inl rfl
    · obtain ⟨hp, hnt⟩ := mem_adel n3 hp
      have hm : p.1 ∈ fs3.map (·.1) := List.mem_map.2 ⟨p, hp, rfl⟩
      rw [k3] at hm
      rcases List.mem_append.1 hm with hm | hm
      · obtain ⟨q, hq, e⟩ := List.mem_map.1 hm
        cases o with
        | none => rw [show fs = [] from h] at hq; cases hq
        | some x =>
          obtain ⟨k0, d0⟩ := x
          rcases SnapFs.keys (show SnapFs k0 d0 fs from h) q hq with h | h
          · exact .inl (by rw [← e, h])
          · exact .inr (.inr ⟨k0, d0, rfl, by rw [← e, h]⟩)
      · simp at hm
        rcases hm with hm | hm
        · exact .inr (.inl hm)
        · exact absurd hm hnt
end Go.Proofs.YtfobjidchipdaaaGreatDoor.Sn

/- SnapBack: what has come (pure). -/
namespace Go.Proofs.YtfobjidchipdaaaGreatDoor.Sn
open Go Go.Proofs.YtfobjidchipdaaaGreatDoor.SL Go.Proofs.YtfobjidchipdaaaGreatDoor.G Go.Proofs.YtfobjidchipdaaaGreatDoor.Pa Go.Proofs.YtfobjidchipdaaaGreatDoor.Wi
set_option linter.unusedSimpArgs false
set_option linter.unusedVariables false
set_option maxRecDepth 100000
/-- what the snapshot's chunks make, those of the places K -/
structure Come (k : Nat) (d : Str) (sz : Nat) (K : Nat → Bool) (a : As) : Prop where
  look : ∀ i, i < cnt d.length sz → a.parts.lookup (i : Int) = if K i = true then some (partOf d sz i) else none
  keys : ∀ p ∈ a.parts, ∃ i, i < cnt d.length sz ∧ p.1 = (i : Int) ∧ K i = true
  nd : (a.parts.map (·.1)).Nodup
  set : (∃ i, i < cnt d.length sz ∧ K i = true) → a.length = d.length ∧ a.sum = crc d ∧ a.number = k ∧ a.count = cnt d.length sz
  new : (∀ i, i < cnt d.length sz → K i = false) → a.count = 0 ∧ a.parts = []
theorem Come.begin (k : Nat) (d : Str) (sz : Nat) : Come k d sz (fun _ => false) As.new :=
  ⟨fun i _ => rfl, (fun p h => by cases h), List.nodup_nil, (fun ⟨i, _, h⟩ => by cases h), fun _ => ⟨rfl, rfl⟩⟩
variable {k sz : Nat} {d : Str} {K : Nat → Bool} {a : As}
theorem Come.ok (h : Come k d sz K a) (hd : d.length ≤ 1048576) (hc : cnt d.length sz ≤ 1048576) : AsOk a := by
  refine ⟨?_, fun p hp => ?_⟩
  · by_cases c : ∃ i, i < cnt d.length sz ∧ K i = true
    · rw [(h.set c).2.2.2]; exact hc
    · rw [(h.new fun i hi => by simpa using fun hk => c ⟨i, hi, hk⟩).1]; omega
  · obtain ⟨i, hi, e, hk⟩ := h.keys p hp
    have h1 := h.look i hi
    rw [if_pos hk, ← e] at h1
    have hm := qlook_mem h1
    have : (p.1, p.2) ∈ a.parts := hp
    have e2 : p.2 = partOf d sz i := by
      have h3 : ∀ (l : List (Int × Str)), (l.map (·.1)).Nodup → ∀ (k : Int) (v w : Str), (k, v) ∈ l → (k, w) ∈ l → v = w := by
        intro l
        induction l with
        | nil => intro _ k v w h; cases h
        | cons q l ih =>
          intro hn k v w h1 h2
          rw [List.map_cons, List.nodup_cons] at hn
          rcases List.mem_cons.1 h1 with h1 | h1
          · rcases List.mem_cons.1 h2 with h2 | h2
            · rw [← h1] at h2; exact (Prod.mk.inj h2).2.symm
            · exact absurd (List.mem_map.2 ⟨_, h2, by rw [← h1]⟩) hn.1
          · rcases List.mem_cons.1 h2 with h2 | h2
            · exact absurd (List.mem_map.2 ⟨_, h1, by rw [← h2]⟩) hn.1
            · exact ih hn.2 k v w h1 h2
      exact h3 _ h.nd _ _ _ this hm
    rw [e2]
    have := partOf_len d sz i
    omega
theorem Come.add {i : Nat} (h : Come k d sz K a) (hk : k < 4611686018427387904) (hd : d.length ≤ 1048576) (h1 : 1 ≤ sz) (h2 : sz ≤ 32768) (hi : i < cnt d.length sz) : (asAdd1 a (encCk (ckAt k d sz i))).2 = 0 ∧ Come k d sz (fun j => if j = i then true else K j) (asAdd1 a (encCk (ckAt k d sz i))).1 := by
  obtain ⟨hr, hf⟩ := ckAt_right (k := k) hk hd h1 h2 hi
  obtain ⟨e1, e2⟩ := read_enc hr
  have hb : a.begin (ckAt k d sz i) = { a with length := d.length, sum := crc d, number := k, count := cnt d.length sz } := by
    unfold As.begin
    split
    · rfl
    · rename_i c
      have hex : ∃ i, i < cnt d.length sz ∧ K i = true := by
        refine Classical.byContradiction fun hn => c ?_
        exact (h.new fun i hi => by simpa using fun hk => hn ⟨i, hi, hk⟩).1
      obtain ⟨s1, s2, s3, s4⟩ := h.set hex
      cases a
      simp only at s1 s2 s3 s4
      subst s1 s2 s3 s4
      rfl
  have hfit : (a.begin (ckAt k d sz i)).fits (ckAt k d sz i) = true := by
    rw [hb]
    unfold As.fits
    have : (a.parts.lookup (((ckAt k d sz i).at' : Nat) : Int)) = if K i = true then some (partOf d sz i) else none := h.look i hi
    simp only [this]
    unfold ckAt
    split <;> simp_all
  have e : asAdd1 a (encCk (ckAt k d sz i)) = ({ (a.begin (ckAt k d sz i)) with parts := qput (a.begin (ckAt k d sz i)).parts ((ckAt k d sz i).at' : Int) (ckAt k d sz i).part }, 0) := by
    unfold asAdd1
    rw [e2, hf, if_pos rfl, e1, hfit, if_pos rfl]
  rw [e, hb]
  refine ⟨rfl, fun j hj => ?_, fun p hp => ?_, ?_, fun _ => ⟨rfl, rfl, rfl, rfl⟩, fun hn => ?_⟩
  · show (qput a.parts (i : Int) (partOf d sz i)).lookup (j : Int) = _
    rw [qput_look]
    by_cases c : j = i
    · subst c; simp
    · rw [if_neg (by omega), if_neg c]; exact h.look j hj
  · rcases qmem_put (show p ∈ qput a.parts (i : Int) (partOf d sz i) from hp) with rfl | hp
    · exact ⟨i, hi, rfl, by simp⟩
    · obtain ⟨j, hj, e, hk⟩ := h.keys p hp
      exact ⟨j, hj, e, by split <;> simp_all⟩
  · show ((qput a.parts (i : Int) (partOf d sz i)).map (·.1)).Nodup
    rcases qput_keys a.parts (i : Int) (partOf d sz i) with ⟨e, _⟩ | ⟨e, hn⟩
    · rw [e]; exact h.nd
    · rw [e, List.nodup_append]
      exact ⟨h.nd, by simp, fun x hx y hy e => hn (by rw [List.mem_singleton.1 hy] at e; rw [← e]; exact hx)⟩
  · have := hn i hi; simp at this
def leftOf (n : Nat) (K : Nat → Bool) : Nat := ((List.range n).filter fun i => !K i).length
theorem leftOf_zero {n : Nat} : leftOf n K = 0 ↔ ∀ i, i < n → K i = true := by
  unfold leftOf
  rw [List.length_eq_zero_iff, List.filter_eq_nil_iff]
  simp
theorem come_parts (h : Come k d sz K a) : a.parts.length = cnt d.length sz ↔ ∀ i, i < cnt d.length sz → K i = true := by
  have hL : ((List.range (cnt d.length sz)).map fun (i : Nat) => (i : Int)).Nodup := by
    rw [List.nodup_iff_pairwise_ne, List.pairwise_map]
    exact List.Pairwise.imp (fun h => by omega) (List.nodup_iff_pairwise_ne.1 List.nodup_range)
  constructor
  · intro he i hi
    refine Classical.byContradiction fun hn => ?_
    have := sub_len (L := ((List.range (cnt d.length sz)).map fun (i : Nat) => (i : Int)).erase (i : Int)) h.nd fun x hx => by
      obtain ⟨p, hp, rfl⟩ := List.mem_map.1 hx
      obtain ⟨j, hj, e, hk⟩ := h.keys p hp
      refine (List.mem_erase_of_ne fun e2 => hn ?_).2 (by rw [e]; exact List.mem_map.2 ⟨j, List.mem_range.2 hj, rfl⟩)
      rw [e] at e2
      have : j = i := by omega
      rw [← this]; exact hk
    rw [List.length_erase_of_mem (List.mem_map.2 ⟨i, List.mem_range.2 hi, rfl⟩), List.length_map, List.length_map, List.length_range] at this
    omega
  · intro hall
    have h1 := sub_len (L := (List.range (cnt d.length sz)).map fun (i : Nat) => (i : Int)) h.nd fun x hx => by
      obtain ⟨p, hp, rfl⟩ := List.mem_map.1 hx
      obtain ⟨j, hj, e, hk⟩ := h.keys p hp
      rw [e]; exact List.mem_map.2 ⟨j, List.mem_range.2 hj, rfl⟩
    have h2 := sub_len (L := a.parts.map (·.1)) hL fun x hx => by
      obtain ⟨i, hi, rfl⟩ := List.mem_map.1 hx
      have hi := List.mem_range.1 hi
      have := h.look i hi
      rw [if_pos (hall i hi)] at this
      exact List.mem_map.2 ⟨_, qlook_mem this, rfl⟩
    rw [List.length_map, List.length_map, List.length_range] at *
    omega
theorem come_le (h : Come k d sz K a) : a.parts.length ≤ cnt d.length sz := by
  have h1 := sub_len (L := (List.range (cnt d.length sz)).map fun (i : Nat) => (i : Int)) h.nd fun x hx => by
    obtain ⟨p, hp, rfl⟩ := List.mem_map.1 hx
    obtain ⟨j, hj, e, hk⟩ := h.keys p hp
    rw [e]; exact List.mem_map.2 ⟨j, List.mem_range.2 hj, rfl⟩
  rw [List.length_map, List.length_map, List.length_range] at h1
  exact h1
theorem fmap_congr {α β : Type} {f g : α → List β} : ∀ {l : List α}, (∀ i ∈ l, f i = g i) → l.flatMap f = l.flatMap g
  | [], _ => rfl
  | a :: l, h => by
    rw [List.flatMap_cons, List.flatMap_cons, h a (List.mem_cons_self), fmap_congr fun i hi => h i (List.mem_cons_of_mem _ hi)]
theorem Come.done (h : Come k d sz K a) (h1 : 1 ≤ sz) : (asDone a).2.2 = decide (leftOf (cnt d.length sz) K = 0) ∧ ((∀ i, i < cnt d.length sz → K i = true) → asData a = d ∧ a.number = k) := by
  have hc := (cnt_mul (n := d.length) h1).2.2
  have hdata : (∀ i, i < cnt d.length sz → K i = true) → asData a = d ∧ a.number = k := fun hall => by
    obtain ⟨s1, s2, s3, s4⟩ := h.set ⟨0, by omega, hall 0 (by omega)⟩
    refine ⟨?_, s3⟩
    unfold asData
    rw [s4]
    conv => rhs; rw [← parts_all (d := d) h1]
    refine fmap_congr fun i hi => ?_
    rw [h.look i (List.mem_range.1 hi), if_pos (hall i (List.mem_range.1 hi))]; rfl
  refine ⟨?_, hdata⟩
  unfold asDone
  by_cases c : ∀ i, i < cnt d.length sz → K i = true
  · rw [decide_eq_true (leftOf_zero.2 c)]
    obtain ⟨s1, s2, s3, s4⟩ := h.set ⟨0, by omega, c 0 (by omega)⟩
    rw [if_neg (by rw [(come_parts h).2 c, s4]; omega), (hdata c).1, s1, s2, if_pos ⟨rfl, rfl⟩]
  · rw [decide_eq_false (fun e => c (leftOf_zero.1 e))]
    rw [if_pos]
    by_cases c2 : ∃ i, i < cnt d.length sz ∧ K i = true
    · right
      rw [(h.set c2).2.2.2]
      have := come_le h
      have : a.parts.length ≠ cnt d.length sz := fun e => c ((come_parts h).1 e)
      omega
    · left
      exact (h.new fun i hi => by simpa using fun hk => c2 ⟨i, hi, hk⟩).1
end Go.Proofs.YtfobjidchipdaaaGreatDoor.Sn

/- Snapshots, the walk: Save. -/
namespace Go.Proofs.YtfobjidchipdaaaGreatDoor.Sn
open Go Go.Proofs.YtfobjidchipdaaaGreatDoor.SL Go.Proofs.YtfobjidchipdaaaGreatDoor.G Go.Proofs.YtfobjidchipdaaaGreatDoor.Pa Go.Proofs.YtfobjidchipdaaaGreatDoor.Wi Go.Proofs.YtfobjidchipdaaaGreatDoor.Dk
set_option linter.unusedSimpArgs false
set_option linter.unusedVariables false
set_option maxRecDepth 100000
variable {B : World} {ro σ σ' : AH} {tag tag' : Nat → Nat}
abbrev SC : List Nat := [0, 1, 2, 7, 8, 9, 10, 31, 40, 41, 42, 43, 45]
theorem DiskAt.keepS {td tf : TypeId} {C : List Nat} {r T M : Nat} {cap : Int} {ps : Ps} (h : DiskAt td tf tag σ r T M cap ps) (k : StepS C ro tag σ tag' σ') (hr : r % 64 ∉ C) : DiskAt td tf tag' σ' r T M cap ps := by
  obtain ⟨R, h1, h2⟩ := k
  exact h.keep h2 fun x hx e => hr (by rw [← e]; exact h1 x hx)
theorem RowC.outR {L : List Nat} {r : Nat} {e : TypeId} {s : Sl} {l : List Value} (h : RowC tag σ r e s l) (hr : r ∉ L) : RowC tag (SL.outR tag L σ) r e s l := by
  obtain ⟨c, h, x⟩ := h; exact ⟨c, h.outR hr, x⟩
/-- the last part: other snapshots' files go -/
theorem sweep_ok {T M x4 x13 : Nat} {cap : Int} {ps : Ps} {o : Option (Nat × Str)} {k : Nat} {d : Str} {Q : Int → AH → Prop} (g : Glob ro) (h : Disk tag σ 10 T M cap ps) (hs : SL.Sep ro σ) (hk : k < 10) (hd : d.length ≤ 1048576) (hM : Mid k d o (pfs ps)) (ho : ∀ k0 d0, o = some (k0, d0) → k0 < k)
    (h4 : Row tag σ 42 26 ⟨some ⟨x4, 0, none⟩, 1, 1⟩ [.pointer (some ⟨T, 0, none⟩)]) (h13 : Row tag σ 40 9 ⟨some ⟨x13, 0, none⟩, 1, 1⟩ [Pa.vS (dfile k)])
    (hQ : ∀ ps' tag' σ', StepS [0, 10] ro tag σ tag' σ' → Disk tag' σ' 10 T M cap ps' → SnapFs k d (pfs ps') → Q 0 σ') :
    c_disk_table_Files B ro (some M) σ fun x σ => lfpD (l24_snap_Save B ro (S [115]) x4 x13 x Q) 0 σ := by
  have hkl : ∀ p ∈ ps, p.1.length ≤ 5 := fun p hp => by
    have hm : (p.1, p.2.2) ∈ pfs ps := List.mem_map.2 ⟨p, hp, rfl⟩
    rcases hM.keys _ hm with e | e | ⟨k0, d0, _, e⟩ <;> simp only at e <;> rw [e] <;> first | decide | exact (by decide : 4 ≤ 5)
  have hkn : ps.length ≤ 4398046511104 := by
    have hL : ∃ L : List Str, L.length ≤ 3 ∧ ∀ x ∈ ps.map (·.1), x ∈ L := by
      refine ⟨manN :: dfile k :: o.toList.map (fun x => dfile x.1), by cases o <;> simp, fun x hx => ?_⟩
      obtain ⟨p, hp, rfl⟩ := List.mem_map.1 hx
      have hm : (p.1, p.2.2) ∈ pfs ps := List.mem_map.2 ⟨p, hp, rfl⟩
      rcases hM.keys _ hm with e | e | ⟨k0, d0, e0, e⟩ <;> simp only at e <;> rw [e]
      · simp
      · simp
      · rw [e0]; simp
    obtain ⟨L, l1, l2⟩ := hL
    have := sub_len h.keys l2
    rw [List.length_map] at this
    omega
  refine files_ok (q := 43) h.map h.keys (fun p hp => by have := hkl p hp; omega) hkn fun ls tag1 σ1 ks st1 hp hso r1 => ?_
  have hln : ls.len = ks.length := by rw [r1.len, List.length_map]
  have hkn' : ks.length ≤ 4398046511104 := by rw [hp.length_eq, List.length_map]; exact hkn
  have hne := name_ne hk
  suffices ∀ (m j : Nat) (ps' : Ps) (tag2 : Nat → Nat) (σ2 : AH), j + m = ks.length → Disk tag2 σ2 10 T M cap ps' → StepS [0, 10] ro tag1 σ1 tag2 σ2 → (pfs ps').lookup manN = some ⟨man k d, (man k d).length⟩ → (pfs ps').lookup (dfile k) = some ⟨d, d.length⟩ →
      (∀ p ∈ ps', p.1 = manN ∨ p.1 = dfile k ∨ p.1 ∈ ks.drop j) → lfpD (l24_snap_Save B ro (S [115]) x4 x13 ls Q) (j : Int) σ2 from
    this _ 0 ps tag1 σ1 (Nat.zero_add _) (h.keep (st1 []) (by simp)) (StepS.refl (st1 []).sep) hM.mn hM.data fun p hp' => .inr (.inr (hp.mem_iff.2 (List.mem_map.2 ⟨p, hp', rfl⟩)))
  intro m
  induction m with
  | zero =>
    intro j ps' tag2 σ2 hj hd2 st2 e1 e2 hkeys
    refine lfpD.intro ?_
    unfold l24_snap_Save
    rw [if_neg (by omega)]
    unfold j19_snap_Save
    refine hQ ps' tag2 σ2 (((st1 []).s (by simp)).trans st2) hd2 ⟨hk, hd, e1, e2, fun p hp' => ?_, ?_⟩
    · obtain ⟨q, hq, rfl⟩ := List.mem_map.1 hp'
      rcases hkeys q hq with e | e | e
      · exact .inl e
      · exact .inr e
      · rw [List.drop_of_length_le (by omega)] at e; cases e
    · have := sub_len (L := [manN, dfile k]) hd2.keys fun x hx => by
        obtain ⟨q, hq, rfl⟩ := List.mem_map.1 hx
        rcases hkeys q hq with e | e | e
        · simp [e]
        · simp [e]
        · rw [List.drop_of_length_le (by omega)] at e; cases e
      rw [List.length_map] at this
      unfold pfs; rw [List.length_map]; exact this
  | succ m ih =>
    intro j ps' tag2 σ2 hj hd2 st2 e1 e2 hkeys
    have hjl : j < ks.length := by omega
    have hs2 := st2.sep
    have edrop : ks.drop j = ks[j] :: ks.drop (j + 1) := List.drop_eq_getElem_cons hjl
    obtain ⟨p, hp', _, hg⟩ := Row.sget (r1.keepS st2 (by decide)) hs2 hjl
    have hgj := hg j hjl
    have hin : ks[j] ∈ ps.map (·.1) := hp.mem_iff.1 (List.getElem_mem hjl)
    generalize ks[j] = n at hgj hin edrop
    have hn : n = manN ∨ n = dfile k ∨ ∃ k0, k0 < k ∧ n = dfile k0 := by
      obtain ⟨q, hq, rfl⟩ := List.mem_map.1 hin
      rcases hM.keys _ (List.mem_map.2 ⟨q, hq, rfl⟩) with e | e | ⟨k0, d0, e0, e⟩
      · exact .inl e
      · exact .inr (.inl e)
      · exact .inr (.inr ⟨k0, ho k0 d0 e0, e⟩)
    have h13' := (h13.keep (st1 []) (by simp)).keepS st2 (by decide)
    have h4' := (h4.keep (st1 []) (by simp)).keepS st2 (by decide)
    refine lfpD.intro ?_
    unfold l24_snap_Save
    rw [if_pos (by omega)]
    refine ⟨p, hp', by omega, by omega, S n, by rw [Int.toNat_natCast]; exact hgj, S (dfile k), Row.cell1 h13' hs2, ?_⟩
    have stay : n = manN ∨ n = dfile k → ∀ tag3 σ3, StepS [0] ro tag2 σ2 tag3 σ3 → j26_snap_Save B ro (S [115]) x4 x13 ls (j : Int) Q (lfpD (l24_snap_Save B ro (S [115]) x4 x13 ls Q)) σ3 := fun hh tag3 σ3 st3 => by
      unfold j26_snap_Save
      rw [Pa.inc j (by omega)]
      refine ih (j + 1) ps' tag3 σ3 (by omega) (DiskAt.keepS hd2 st3 (by decide)) (st2.trans (st3.mono (by decide))) e1 e2 fun q hq => ?_
      rcases hkeys q hq with e | e | e
      · exact .inl e
      · exact .inr (.inl e)
      · rw [edrop] at e
        rcases List.mem_cons.1 e with e | e
        · rcases hh with h | h
          · exact .inl (e.trans h)
          · exact .inr (.inl (e.trans h))
        · exact .inr (.inr e)
    by_cases c : S n = S (dfile k)
    · rw [if_neg (by simpa using c)]
      unfold j30_snap_Save
      rw [if_neg (by simp)]
      exact stay (.inr (S_inj.1 c)) tag2 σ2 (StepS.refl hs2)
    · rw [if_pos c]
      rcases hn with rfl | rfl | ⟨k0, hlt, rfl⟩
      · refine isData_man ?_
        unfold j30_snap_Save
        rw [if_neg (by simp)]
        exact stay (.inl rfl) tag2 σ2 (StepS.refl hs2)
      · exact absurd rfl c
      · refine isData_yes g (by omega) ?_
        unfold j30_snap_Save
        rw [if_pos rfl]
        refine ⟨_, Row.cell1 h4' hs2, ?_⟩
        refine nw_cells (tag := tag2) 3 hs2 fun y tag3 σ3 st3 r3 => ?_
        refine remove_ok (q := 3) (n := dfile k0) (hd2.keep (st3 []) (by simp)) (by decide) (by decide) r3 (by decide) (dname_dfile (by omega)) fun e tag4 σ4 st4 hd4 => ?_
        unfold j26_snap_Save
        rw [Pa.inc j (by omega)]
        have hnk : (pfs ps').map (·.1) = ps'.map (·.1) := pfs_keys ps'
        have hnd : ((pfs ps').map (·.1)).Nodup := by rw [hnk]; exact hd2.keys
        have n1 : manN ≠ dfile k0 := fun e => (name_ne (by omega)).1 e.symm
        have n2 : dfile k ≠ dfile k0 := fun e => by have := dfile_inj hk (by omega) e; omega
        refine ih (j + 1) _ tag4 σ4 (by omega) hd4 (st2.trans (((st3 []).s (by simp)).trans st4)) ?_ ?_ fun q hq => ?_
        · rw [pfs_del, lookup_adel hnd, if_neg n1]; exact e1
        · rw [pfs_del, lookup_adel hnd, if_neg n2]; exact e2
        · obtain ⟨hq, hqn⟩ := mem_adel hd2.keys hq
          rcases hkeys q hq with e | e | e
          · exact .inl e
          · exact .inr (.inl e)
          · rw [edrop] at e
            rcases List.mem_cons.1 e with e | e
            · exact absurd e hqn
            · exact .inr (.inr e)
end Go.Proofs.YtfobjidchipdaaaGreatDoor.Sn

/- Snapshots, the walk: Save, whole. -/
namespace Go.Proofs.YtfobjidchipdaaaGreatDoor.Sn
open Go Go.Proofs.YtfobjidchipdaaaGreatDoor.SL Go.Proofs.YtfobjidchipdaaaGreatDoor.G Go.Proofs.YtfobjidchipdaaaGreatDoor.Pa Go.Proofs.YtfobjidchipdaaaGreatDoor.Wi Go.Proofs.YtfobjidchipdaaaGreatDoor.Dk
set_option linter.unusedSimpArgs false
set_option linter.unusedVariables false
set_option maxRecDepth 100000
variable {B : World} {ro σ σ' : AH} {tag tag' : Nat → Nat}
theorem pfs_none {ps : Ps} {n : Str} (h : (pfs ps).lookup n = none) : ps.lookup n = none := by
  rw [pfs_lookup] at h; exact Option.map_eq_none_iff.1 h
/-- safe, renamed, swept -/
theorem finish_ok {T M x4 x13 x14 : Nat} {cap : Int} {ps3 : Ps} {fs : Fs} {o : Option (Nat × Str)} {k : Nat} {d : Str} {Q : Int → AH → Prop} (g : Glob ro) (h : Disk tag σ 10 T M cap ps3) (hs : SL.Sep ro σ) (hk : k < 10) (hd : d.length ≤ 1048576) (hS : StFs o fs) (hn : (fs.map (·.1)).Nodup) (ho : ∀ k0 d0, o = some (k0, d0) → k0 < k)
    (h3 : pfs ps3 = fs ++ [(dfile k, ⟨d, 0⟩)] ++ [(tmpN, ⟨man k d, 0⟩)])
    (h4 : Row tag σ 42 26 ⟨some ⟨x4, 0, none⟩, 1, 1⟩ [.pointer (some ⟨T, 0, none⟩)]) (h13 : Row tag σ 40 9 ⟨some ⟨x13, 0, none⟩, 1, 1⟩ [Pa.vS (dfile k)]) (h14 : Row tag σ 41 9 ⟨some ⟨x14, 0, none⟩, 1, 1⟩ [Pa.vS tmpN])
    (hQ : ∀ ps' tag' σ', StepS [0, 10] ro tag σ tag' σ' → Disk tag' σ' 10 T M cap ps' → SnapFs k d (pfs ps') → Q 0 σ') : j10_snap_Save B ro (S [115]) x4 x13 x14 Q σ := by
  unfold j10_snap_Save
  have hne := name_ne hk
  obtain ⟨f1, f2⟩ := hS.fresh hk ho
  have g1 : (fs ++ [(dfile k, (⟨d, 0⟩ : Fl))]).lookup tmpN = none := by rw [look_app f1, if_neg (fun e => hne.2 e.symm)]; exact f2
  refine ⟨_, Row.cell1 h4 hs, S (dfile k), Row.cell1 h13 hs, S tmpN, Row.cell1 h14 hs, ?_⟩
  refine nw_cells (tag := tag) 43 hs fun x tag1 σ1 st1 r1 => ?_
  have hl3 : ∀ n ∈ [dfile k, tmpN], ps3.lookup n ≠ none := by
    intro n hn e
    have : (pfs ps3).lookup n = none := by rw [pfs_lookup, e]; rfl
    rw [h3, look_app g1, look_app f1] at this
    simp at hn
    rcases hn with rfl | rfl
    · rw [if_neg hne.2, if_pos rfl] at this; cases this
    · rw [if_pos rfl] at this; cases this
  have hdn : [dfile k, tmpN].all dName = true := by
    simp only [List.all_cons, dname_dfile hk, List.all_nil, Bool.and_true, Bool.true_and]; decide
  refine sync_ok (q := 43) (ns := [dfile k, tmpN]) (h.keep (st1 []) (by simp)) (by decide) (by decide) r1 (by decide) (by simp) ?_ ?_
  · rintro (hb | ⟨n, hn, e⟩)
    · rw [hdn] at hb; cases hb
    · exact absurd e (hl3 n hn)
  · intro _ _ ps4 tag2 σ2 st2 hd4 e4
    have hs2 := st2.sep
    have sA : StepS [0, 10] ro tag σ tag2 σ2 := ((st1 []).s (by simp)).trans st2
    have h4' := h4.keepS sA (by decide)
    have h13' := h13.keepS sA (by decide)
    have h14' := h14.keepS sA (by decide)
    obtain ⟨m1, m2⟩ := mid_of (fs2 := pfs ps3) (fs3 := pfs ps4) hS hn hk ho h3 e4
    refine ⟨_, Row.cell1 h4' hs2, S tmpN, Row.cell1 h14' hs2, by decide, ?_⟩
    rw [show (⟨#[46, 109, 97, 110]⟩ : ByteArray) = S [46, 109, 97, 110] from rfl, S_append]
    refine rename_ok (a := tmpN) (c := manN) hd4 (by decide) (by decide) (by decide) (by decide) ?_ ?_
    · intro e
      rw [pfs_lookup, e] at m1; cases m1
    · intro b f hb σ3 st3 hd5
      have hs3 := st3.sep
      have hf : f = ⟨man k d, (man k d).length⟩ := by rw [pfs_lookup, hb] at m1; exact Option.some.inj m1
      subst hf
      refine ⟨_, Row.cell1 (h4'.keepS st3 (by decide)) hs3, _, rfl, _, (hd5.ptrs hs3).1, ?_⟩
      refine sweep_ok (o := o) g hd5 hs3 hk hd (by rw [pfs_put, pfs_del]; exact m2) ho (h4'.keepS st3 (by decide)) (h13'.keepS st3 (by decide)) fun ps' tag4 σ4 st4 hd6 hF => ?_
      exact hQ ps' tag4 σ4 (sA.trans ((st3.mono (by decide)).trans st4)) hd6 hF
theorem save_ok {T M : Nat} {cap : Int} {ps : Ps} {o : Option (Nat × Str)} {k : Nat} {d : Str} {a3 : Sl} {Q : Int → AH → Prop} (g : Glob ro) (h : Disk tag σ 10 T M cap ps) (hc0 : 0 ≤ cap) (hc1 : cap ≤ 1073741824) (hS : StFs o (pfs ps)) (hk : k < 10) (hD : SL.Data ro tag σ a3 (d.map vU)) (hdl : d.length < 4611686018427387904)
    (hfail : ∀ e, e ≠ 0 → (1048576 < d.length ∨ (∃ k0 d0, o = some (k0, d0) ∧ k ≤ k0) ∨ cap < (used (pfs ps) + d.length + 35 : Nat)) → ∀ ps' tag' σ', StepS SC ro tag σ tag' σ' → Disk tag' σ' 10 T M cap ps' → StFs o (pfs ps') → Q e σ')
    (hok : d.length ≤ 1048576 → (∀ k0 d0, o = some (k0, d0) → k0 < k) → ∀ ps' tag' σ', StepS SC ro tag σ tag' σ' → Disk tag' σ' 10 T M cap ps' → StFs (some (k, d)) (pfs ps') → Q 0 σ') :
    c_snap_Save B ro (some ⟨T, 0, none⟩) (S [115]) (k : Int) a3 σ Q := by
  refine snap_Save_ok fun hs => ?_
  unfold f_snap_Save
  have hln : a3.len = d.length := by rw [hD.len, List.length_map]
  refine nw_cells (tag := tag) 42 hs fun x4 tag1 σ1 st1 r1 => ?_
  refine ⟨_, Row.cell1 r1 (st1 []).sep, ?_⟩
  have h1 := h.keep (st1 []) (by simp)
  refine c_snap_Load_mono (Q := fun n s b e σ2 => e = 0 ∧ ∃ tag2, StepS [0, 7, 8, 9, 31] ro tag1 σ1 tag2 σ2 ∧ ((b = false ∧ o = none) ∨ (b = true ∧ ∃ k0 d0, o = some (k0, d0) ∧ n = (k0 : Nat)))) (load_ok g h1 (by decide) (by decide) hS (fun e tag2 σ2 st2 => ⟨rfl, tag2, st2, .inl ⟨rfl, e⟩⟩) fun k0 d0 e s' tag2 σ2 st2 _ => ⟨rfl, tag2, st2, .inr ⟨rfl, k0, d0, e, rfl⟩⟩) ?_
  rintro n s b e σ2 hs2 ⟨rfl, tag2, st2, hb⟩
  have h2 : Disk tag2 σ2 10 T M cap ps := DiskAt.keepS h1 st2 (by decide)
  have s02 : StepS SC ro tag σ tag2 σ2 := ((st1 []).s (by simp)).trans (st2.mono (by decide))
  rw [if_neg (by simp), if_neg (by omega), hln]
  by_cases c1 : 1048576 < d.length
  · rw [if_pos (by omega)]
    exact hfail 14 (by decide) (.inl c1) ps tag2 σ2 s02 h2 hS
  rw [if_neg (by omega)]
  by_cases c2 : b = true ∧ (k : Int) ≤ n
  · rw [if_pos c2]
    rcases hb with ⟨h0, _⟩ | ⟨_, k0, d0, e0, e1⟩
    · rw [h0] at c2; cases c2.1
    · exact hfail 41 (by decide) (.inr (.inl ⟨k0, d0, e0, by omega⟩)) ps tag2 σ2 s02 h2 hS
  rw [if_neg c2]
  have ho : ∀ k0 d0, o = some (k0, d0) → k0 < k := fun k0 d0 e => by
    rcases hb with ⟨_, h0⟩ | ⟨h0, k1, d1, e0, e1⟩
    · rw [h0] at e; cases e
    · rw [e0] at e; cases e
      have : ¬ (k : Int) ≤ n := fun hh => c2 ⟨h0, hh⟩
      omega
  obtain ⟨f1, f2⟩ := hS.fresh hk ho
  have p1 := pfs_none f1
  have p2 := pfs_none f2
  have hne := name_ne hk
  have hdf := dname_dfile hk
  have hdt : dName tmpN = true := by decide
  have hU := hS.used h.keys
  refine dataFile_ok g hk ⟨by decide, ?_⟩
  rw [show (⟨#[46, 116, 109, 112]⟩ : ByteArray) = S [46, 116, 109, 112] from rfl, S_append]
  refine nw_cells (tag := tag2) 40 hs2 fun x13 tag3 σ3 st3 r3 => ?_
  refine nw_cells (tag := tag3) 41 (st3 []).sep fun x14 tag4 σ4 st4 r4 => ?_
  refine (r3.keep (st4 []) (by simp)).stAll (st4 []).sep rfl (by simp [storable]) fun σ5 st5 r5 => ?_
  refine (r4.keep st5 (by decide)).stAll st5.sep rfl (by simp [storable]) fun σ6 st6 r6 => ?_
  have s26 : StepS [40, 41] ro tag2 σ2 tag4 σ6 := ((st3 []).s (by simp)).trans (((st4 []).s (by simp)).trans ((st5.s (by decide)).trans (st6.s (by decide))))
  have h6 : Disk tag4 σ6 10 T M cap ps := DiskAt.keepS h2 s26 (by decide)
  have r13 : Row tag4 σ6 40 9 ⟨some ⟨x13, 0, none⟩, 1, 1⟩ [Pa.vS (dfile k)] := r5.keep st6 (by decide)
  have r14 : Row tag4 σ6 41 9 ⟨some ⟨x14, 0, none⟩, 1, 1⟩ [Pa.vS tmpN] := r6
  have r04 := (r1.keepS st2 (by decide)).keepS s26 (by decide)
  refine clear_ok (a := dfile k) (c := tmpN) h6 (by decide) (by decide) hdf hdt r13 r14 r04 fun tag7 σ7 st7 h7 => ?_
  rw [adel_no p1, adel_no p2] at h7
  have hs7 := st7.sep
  have r13 := r13.keepS st7 (by decide)
  have r14 := r14.keepS st7 (by decide)
  have r04 := r04.keepS st7 (by decide)
  have s07 : StepS SC ro tag σ tag7 σ7 := s02.trans ((s26.mono (by decide)).trans (st7.mono (by decide)))
  have hD7 := hD.keepS s07 (by decide)
  refine lent_roles tag7 [40, 41] ?_
  have hsL : SL.Sep (join ro (inR tag7 [40, 41] σ7)) (outR tag7 [40, 41] σ7) := hs7.lentR
  refine ⟨S (dfile k), r13.lendR hs7 (i := 0) (by decide) rfl rfl, S tmpN, r14.lendR hs7 (i := 0) (by decide) rfl rfl, ?_⟩
  have hDL := hD7.outR (L := [40, 41]) (by decide)
  refine digestOf_ok (tag := tag7) (l := d) (fun tag' σ' st => (hDL.keep st (by decide)).read st.sep) hdl fun tag8 σ8 st8 => ?_
  refine mbytes_ok (tag := tag8) (q := 2) (by decide) (by omega) hdl fun s9 tag9 σ9 st9 r9 => ?_
  refine nw_cells (tag := tag9) 44 st9.sep fun x69 tagA σA stA rA => ?_
  intro hdis
  have sL : StepS [0, 1, 2] (join ro (inR tag7 [40, 41] σ7)) tag7 (outR tag7 [40, 41] σ7) tagA σA := (st8.s (by decide)).trans ((st9.s (by decide)).trans ((stA []).s (by simp)))
  have stB := sL.backR hs7 hdis
  have rM := (r9.keep (stA []) (by simp)).backR hdis
  have r69 := rA.backR hdis
  generalize tagB tag7 tagA [40, 41] σ7 = tagB' at stB rM r69
  generalize join (inR tag7 [40, 41] σ7) σA = σB at stB rM r69
  have hsB := stB.sep
  have hB : Disk tagB' σB 10 T M cap ps := DiskAt.keepS h7 stB (by decide)
  have r13 := r13.keepS stB (by decide)
  have r14 := r14.keepS stB (by decide)
  have r04 := r04.keepS stB (by decide)
  have s0B : StepS SC ro tag σ tagB' σB := s07.trans (stB.mono (by decide))
  have hDB := hD.keepS s0B (by decide)
  obtain ⟨p69, hp69, hg69⟩ := r69.ptr hsB (by simp)
  cases hp69
  -- the first file
  refine lfpD.intro ?_
  unfold l41_snap_Save
  rw [if_pos (by simp)]
  refine ⟨_, rfl, by omega, by simp, S (dfile k), a3, cellsAt_of 0 fun i v hv => ?_, ?_⟩
  · rw [Nat.zero_add]
    match i, hv with
    | 0, hv => cases hv; exact hg69 0 _ rfl
    | 1, hv => cases hv; exact hg69 1 _ rfl
  refine nw_st (tag := tagB') 45 hsB rfl (by simp [storable, Sl.v]) fun x17 tagC σC stC rC => ?_
  have hsC := (stC []).sep
  obtain ⟨p17, hp17, hg17⟩ := rC.ptr hsC (by simp)
  cases hp17
  refine ⟨_, Row.cell1 (r04.keep (stC []) (by simp)) hsC, S (dfile k), hg17 0 _ rfl, a3, hg17 1 _ rfl, ?_⟩
  have hC := hB.keep (stC []) (by simp)
  have hDC := hDB.keep (stC []) (by simp)
  have s0C : StepS SC ro tag σ tagC σC := s0B.trans ((stC []).s (by simp))
  refine append_ok (n := dfile k) (d := d) hC (by decide) (by decide) hc0 hc1 (by omega) hln (by omega) (fun tag' σ' st => (hDC.keepS st (by decide)).read st.sep) (fun e => by rw [hdf] at e; cases e) ?_ ?_
  · intro _ hsp tagD σD stD
    rw [if_pos (by decide)]
    have hD' := hC.keep stD (by decide)
    refine clear_ok (a := dfile k) (c := tmpN) hD' (by decide) (by decide) hdf hdt ((r13.keep (stC []) (by simp)).keep stD (by decide)) ((r14.keep (stC []) (by simp)).keep stD (by decide)) ((r04.keep (stC []) (by simp)).keep stD (by decide)) fun tagE σE stE hE => ?_
    rw [adel_no p1, adel_no p2] at hE
    exact hfail 32 (by decide) (.inr (.inr (by omega))) ps tagE σE (s0C.trans ((stD.s (by decide)).trans (stE.mono (by decide)))) hE hS
  · intro _ hfit ps2 tagD σD stD hD2 e2
    rw [if_neg (by simp)]
    rw [fapp_new f1] at e2
    have hsD := stD.sep
    have r69D := (r69.keep (stC []) (by simp)).keepS stD (by decide)
    obtain ⟨p69, hp69, hg69⟩ := r69D.ptr hsD (by simp)
    cases hp69
    have r13 := (r13.keep (stC []) (by simp)).keepS stD (by decide)
    have r14 := (r14.keep (stC []) (by simp)).keepS stD (by decide)
    have r04 := (r04.keep (stC []) (by simp)).keepS stD (by decide)
    have rM := (rM.keep (stC []) (by simp)).keepS stD (by decide)
    refine lfpD.intro ?_
    rw [show IntKind.i64.wrap (0 + 1) = 1 from by decide, if_pos (by simp)]
    refine ⟨_, rfl, by omega, by simp, S tmpN, s9, cellsAt_of 0 fun i v hv => ?_, ?_⟩
    · rw [Nat.zero_add]
      match i, hv with
      | 0, hv => cases hv; exact hg69 2 _ rfl
      | 1, hv => cases hv; exact hg69 3 _ rfl
    refine nw_st (tag := tagD) 45 hsD rfl (by simp [storable, Sl.v]) fun y17 tagE σE stE rE => ?_
    have hsE := (stE []).sep
    obtain ⟨p17, hp17, hg17⟩ := rE.ptr hsE (by simp)
    cases hp17
    refine ⟨_, Row.cell1 (r04.keep (stE []) (by simp)) hsE, S tmpN, hg17 0 _ rfl, s9, hg17 1 _ rfl, ?_⟩
    have hE := hD2.keep (stE []) (by simp)
    have rM := rM.keep (stE []) (by simp)
    have hm35 := man35 (d := d) hk (by omega)
    have hu2 : used (pfs ps2) = used (pfs ps) + d.length := by rw [e2, used_app]
    have s0E : StepS SC ro tag σ tagE σE := s0C.trans ((stD.mono (by decide)).trans ((stE []).s (by simp)))
    have g1 : (pfs ps2).lookup tmpN = none := by rw [e2, look_app f1, if_neg (fun e => hne.2 e.symm)]; exact f2
    refine append_ok (n := tmpN) (d := man k d) hE (by decide) (by decide) hc0 hc1 (by omega) (by rw [rM.len, List.length_map]) (by omega) (fun tag' σ' st => (rM.keepS st (by decide)).read st.sep) (fun e => by rw [hdt] at e; cases e) ?_ ?_
    · intro _ hsp tagF σF stF
      rw [if_pos (by decide)]
      have hF' := hE.keep stF (by decide)
      refine clear_ok (a := dfile k) (c := tmpN) hF' (by decide) (by decide) hdf hdt ((r13.keep (stE []) (by simp)).keep stF (by decide)) ((r14.keep (stE []) (by simp)).keep stF (by decide)) ((r04.keep (stE []) (by simp)).keep stF (by decide)) fun tagG σG stG hG => ?_
      refine hfail 32 (by decide) (.inr (.inr (by omega))) _ tagG σG (s0E.trans ((stF.s (by decide)).trans (stG.mono (by decide)))) hG ?_
      rw [pfs_del, pfs_del, e2, adel_app f1, adel_no f2]
      exact hS
    · intro _ hfit2 ps3 tagF σF stF hF3 e3
      rw [if_neg (by simp)]
      rw [fapp_new g1, e2] at e3
      refine lfpD.intro ?_
      rw [show IntKind.i64.wrap (1 + 1) = 2 from by decide, if_neg (by simp)]
      refine finish_ok (fs := pfs ps) (o := o) g hF3 stF.sep hk (by omega) hS (by rw [pfs_keys]; exact h.keys) ho e3 ((r04.keep (stE []) (by simp)).keepS stF (by decide)) ((r13.keep (stE []) (by simp)).keepS stF (by decide)) ((r14.keep (stE []) (by simp)).keepS stF (by decide)) fun ps' tagG σG stG hG hFs => ?_
      exact hok (by omega) ho ps' tagG σG (s0E.trans ((stF.mono (by decide)).trans (stG.mono (by decide)))) hG hFs
end Go.Proofs.YtfobjidchipdaaaGreatDoor.Sn

/- Functions as predicate transformers, and the proofs that the code does what they tell: printed by wip/tools/gen.py. -/
namespace Go.Proofs.YtfobjidchipdaaaGreatDoor.G
open Go Go.Proofs.YtfobjidchipdaaaGreatDoor.SL
set_option linter.unusedVariables false
set_option linter.unusedSimpArgs false

def j14_law05_SnapChunks (B : World) (ro : AH) (Q : Bool → AH → Prop) (σ : AH) : Prop :=
 c_law05_awake B ro σ fun x144_15 σ =>
 Q x144_15 σ

def j18_law05_SnapChunks (B : World) (ro : AH) (x31_5 : Sl) (x73_12 : Option Addr) (x75_13 : Nat) (x80_17 : Int) (Q : Bool → AH → Prop) (Y16 : (Int) → AH → Prop) (σ : AH) : Prop :=
 Y16 (IntKind.i64.wrap (x80_17 + 1)) σ

def j35_law05_SnapChunks (B : World) (ro : AH) (x31_5 : Sl) (x73_12 : Option Addr) (x75_13 : Nat) (x80_17 : Int) (Q : Bool → AH → Prop) (Y16 : (Int) → AH → Prop) (x142_36 : Bool) (σ : AH) : Prop :=
 if x142_36 = true then
  Q false σ
 else
 j18_law05_SnapChunks B ro x31_5 x73_12 x75_13 x80_17 Q Y16 σ

def j33_law05_SnapChunks (B : World) (ro : AH) (x31_5 : Sl) (x73_12 : Option Addr) (x75_13 : Nat) (x80_17 : Int) (Q : Bool → AH → Prop) (Y16 : (Int) → AH → Prop) (x134_34 : Bool) (σ : AH) : Prop :=
 if x134_34 = true then
  j35_law05_SnapChunks B ro x31_5 x73_12 x75_13 x80_17 Q Y16 true σ
 else
 c_snap_Asm_Missing B ro x73_12 σ fun x137_37 σ =>
 c_ref05_Asm_Missing B ro (some ⟨x75_13, 0, none⟩) σ fun x139_38 σ =>
 c_ref01_SameInts B ro x137_37 x139_38 σ fun x140_39 σ =>
 j35_law05_SnapChunks B ro x31_5 x73_12 x75_13 x80_17 Q Y16 (!x140_39) σ

def j26_law05_SnapChunks (B : World) (ro : AH) (x31_5 : Sl) (x73_12 : Option Addr) (x75_13 : Nat) (x80_17 : Int) (Q : Bool → AH → Prop) (Y16 : (Int) → AH → Prop) (σ : AH) : Prop :=
 c_snap_Asm_Done B ro x73_12 σ fun x111_27 x111_28 x111_29 σ =>
 c_ref05_Asm_Done B ro (some ⟨x75_13, 0, none⟩) σ fun x117_30 x117_31 x117_32 σ =>
 if (¬ (x111_27 = x117_30)) ∨ (¬ (x111_29 = x117_32)) then
  j33_law05_SnapChunks B ro x31_5 x73_12 x75_13 x80_17 Q Y16 true σ
 else
 c_ref01_Same B ro x111_28 x117_31 σ fun x132_40 σ =>
 j33_law05_SnapChunks B ro x31_5 x73_12 x75_13 x80_17 Q Y16 (!x132_40) σ

def l41_law05_SnapChunks (B : World) (ro : AH) (x31_5 : Sl) (x73_12 : Option Addr) (x75_13 : Nat) (x80_17 : Int) (x85_21 : Sl) (Q : Bool → AH → Prop) (Y16 : (Int) → AH → Prop) : (Int) → AH → ((Int) → AH → Prop) → Prop := fun x97_42 σ Y41 =>
 if x97_42 < (x85_21.len : Int) then
  ∃ p104_43 : Addr, x85_21.a = some p104_43 ∧ (0 : Int) ≤ x97_42 ∧ x97_42 < (x85_21.len : Int) ∧
  ∃ (x105_44 : Int), acell ro σ (p104_43.add (Int.toNat x97_42 * 1)) = some (.int .u8 x105_44) ∧
  ∃ p107_45 : Addr, x85_21.a = some p107_45 ∧ (0 : Int) ≤ x97_42 ∧ x97_42 < (x85_21.len : Int) ∧
  stN (p107_45.add (Int.toNat x97_42 * 1)) (fun σ =>
   Y41 (IntKind.i64.wrap (x97_42 + 1)) σ) [.int .u8 (bitXor .u8 (if IntKind.u8.signed then -1 else IntKind.u8.max) x105_44)] 0 σ
 else
 j26_law05_SnapChunks B ro x31_5 x73_12 x75_13 x80_17 Q Y16 σ

def l16_law05_SnapChunks (B : World) (ro : AH) (x31_5 : Sl) (x73_12 : Option Addr) (x75_13 : Nat) (Q : Bool → AH → Prop) : (Int) → AH → ((Int) → AH → Prop) → Prop := fun x80_17 σ Y16 =>
 if x80_17 < (x31_5.len : Int) then
  ∃ p82_19 : Addr, x31_5.a = some p82_19 ∧ (0 : Int) ≤ x80_17 ∧ x80_17 < (x31_5.len : Int) ∧
  ∃ (x83_20 : Sl), acell ro σ (p82_19.add (Int.toNat x80_17 * 1)) = some (Sl.v x83_20) ∧
  c_ref01_Copy B ro x83_20 σ fun x85_21 σ =>
  nw ro σ (.cells #[Sl.v x85_21] 22) fun x88_22 σ =>
  c_snap_Asm_Add B ro x73_12 (⟨some ⟨x88_22, 0, none⟩, 1, 1⟩ : Sl) σ fun x89_23 σ =>
  nw ro σ (.cells #[Sl.v x83_20] 22) fun x92_24 σ =>
  c_ref05_Asm_Add B ro (some ⟨x75_13, 0, none⟩) (⟨some ⟨x92_24, 0, none⟩, 1, 1⟩ : Sl) σ fun x93_25 σ =>
  if ¬ (x89_23 = x93_25) then
   Q false σ
  else
  lfpD (l41_law05_SnapChunks B ro x31_5 x73_12 x75_13 x80_17 x85_21 Q Y16 ) (0) σ
 else
 j14_law05_SnapChunks B ro Q σ

def j11_law05_SnapChunks (B : World) (ro : AH) (x31_5 : Sl) (Q : Bool → AH → Prop) (σ : AH) : Prop :=
 c_snap_NewAsm B ro σ fun x73_12 σ =>
 nw ro σ (.cells #[Sl.v (⟨none, 0, 0⟩ : Sl)] 56) fun x75_13 σ =>
 if x73_12 = none then
  Q false σ
 else
 lfpD (l16_law05_SnapChunks B ro x31_5 x73_12 x75_13 Q ) (0) σ

def l46_law05_SnapChunks (B : World) (ro : AH) (x31_5 : Sl) (x37_7 : Sl) (x44_9 : Sl) (Q : Bool → AH → Prop) : (Int) → AH → ((Int) → AH → Prop) → Prop := fun x59_47 σ Y46 =>
 if x59_47 < (x37_7.len : Int) then
  ∃ p64_48 : Addr, x37_7.a = some p64_48 ∧ (0 : Int) ≤ x59_47 ∧ x59_47 < (x37_7.len : Int) ∧
  ∃ p68_49 : Addr, x44_9.a = some p68_49 ∧ (0 : Int) ≤ x59_47 ∧ x59_47 < (x44_9.len : Int) ∧
  ∃ (x65_50 : Sl), acell ro σ (p64_48.add (Int.toNat x59_47 * 1)) = some (Sl.v x65_50) ∧
  ∃ (x69_51 : Sl), acell ro σ (p68_49.add (Int.toNat x59_47 * 1)) = some (Sl.v x69_51) ∧
  c_ref01_Same B ro x65_50 x69_51 σ fun x70_52 σ =>
  if ¬ (x70_52 = true) then
   Q false σ
  else
  Y46 (IntKind.i64.wrap (x59_47 + 1)) σ
 else
 j11_law05_SnapChunks B ro x31_5 Q σ

def f_law05_SnapChunks (B : World) (ro : AH) (a0_0 : Int) (a0_1 : Sl) (a0_2 : Int) (a0_3 : Sl) (σ : AH) (Q : Bool → AH → Prop) : Prop :=
 nw ro σ (.cells #[.int .i64 a0_0, Sl.v a0_1, .int .i64 a0_2, Sl.v a0_3] 46) fun x1_1 σ =>
 ∃ (x25_2 : Int), acell ro σ ⟨x1_1, 0, none⟩ = some (.int .i64 x25_2) ∧
 ∃ (x27_3 : Sl), acell ro σ ((⟨x1_1, 0, none⟩ : Addr).add 1) = some (Sl.v x27_3) ∧
 ∃ (x29_4 : Int), acell ro σ ((⟨x1_1, 0, none⟩ : Addr).add 2) = some (.int .i64 x29_4) ∧
 ∃ (x31_5 : Sl), acell ro σ ((⟨x1_1, 0, none⟩ : Addr).add 3) = some (Sl.v x31_5) ∧
 c_ref01_Copy B ro x27_3 σ fun x35_6 σ =>
 c_snap_Chunks B ro x25_2 x35_6 x29_4 σ fun x37_7 x37_8 σ =>
 c_ref05_Chunks B ro x25_2 x27_3 x29_4 σ fun x44_9 x44_10 σ =>
 if (¬ (x37_8 = x44_10)) ∨ (¬ ((x37_7.len : Int) = (x44_9.len : Int))) then
  Q false σ
 else
 lfpD (l46_law05_SnapChunks B ro x31_5 x37_7 x44_9 Q ) (0) σ

set_option maxRecDepth 100000 in
set_option maxHeartbeats 4000000 in
theorem law05_SnapChunks_ok {B : World} {ro : AH} {a0_0 : Int} {a0_1 : Sl} {a0_2 : Int} {a0_3 : Sl} {σ : AH} {Q : Bool → AH → Prop} (h : Sep ro σ → f_law05_SnapChunks B ro a0_0 a0_1 a0_2 a0_3 σ Q) : c_law05_SnapChunks B ro a0_0 a0_1 a0_2 a0_3 σ Q := by
  refine ACalls.of_sep fun hsep => ?_
  replace h := h hsep
  refine ACalls.of_body (args := [.agg #[.int .i64 a0_0, Sl.v a0_1, .int .i64 a0_2, Sl.v a0_3]]) Tryz.func4 rfl (by rw [Tryz.ntmps4]; simp) ?_
  rw [Tryz.ntmps4]
  unfold f_law05_SnapChunks at h
  refine AW.seq ?_
  refine AW.reg ?_
  refine Ls rfl rfl (X_new (A_box rfl rfl) fun x1_1 g1 g2 => ?_)
  replace h := h x1_1 g1 g2
  refine Lp (V_asg rfl rfl) rfl rfl ?_
  refine Lnil ?_
  refine thenN ?_
  refine AW.seq ?_
  refine AW.drawn0 (fun i => ([0, 3, 0, 3, 0, 3, 0, 3, 0, 0, 0, 0] : List Nat).getD i 2) [] [0, 2, 4, 6, 1, 8, 3, 9, 5, 10, 7, 11] Tryz.mixed (by decide +kernel) ?_
  refine Dp rfl rfl rfl rfl (V_fld rfl Tryz.underlying46 rfl ty3 (by decide) rfl) ?_
  refine Dp rfl rfl rfl rfl (V_fld rfl Tryz.underlying46 rfl ty22 (by decide) rfl) ?_
  refine Dp rfl rfl rfl rfl (V_fld rfl Tryz.underlying46 rfl ty3 (by decide) rfl) ?_
  refine Dp rfl rfl rfl rfl (V_fld rfl Tryz.underlying46 rfl ty44 (by decide) rfl) ?_
  obtain ⟨x25_2, hc, h⟩ := h
  refine Dr rfl rfl rfl rfl (R_ld rfl Tryz.underlying3 rfl rfl hc) ?_
  refine Dp rfl rfl rfl rfl (V_asg rfl rfl) ?_
  obtain ⟨x27_3, hc, h⟩ := h
  refine Dr rfl rfl rfl rfl (R_ld rfl Tryz.underlying22 rfl rfl hc) ?_
  refine Dp rfl rfl rfl rfl (V_asg rfl rfl) ?_
  obtain ⟨x29_4, hc, h⟩ := h
  refine Dr rfl rfl rfl rfl (R_ld rfl Tryz.underlying3 rfl rfl hc) ?_
  refine Dp rfl rfl rfl rfl (V_asg rfl rfl) ?_
  obtain ⟨x31_5, hc, h⟩ := h
  refine Dr rfl rfl rfl rfl (R_ld rfl Tryz.underlying44 rfl rfl hc) ?_
  refine Dp rfl rfl rfl rfl (V_asg rfl rfl) ?_
  refine Dend ?_
  refine thenN ?_
  refine AW.seq ?_
  refine AW.reg ?_
  refine Lp (V_move rfl rfl) rfl rfl ?_
  refine Lp (V_move rfl rfl) rfl rfl ?_
  refine Ls rfl rfl (X_call rfl Tryz.func12 rfl rfl rfl (ACalls.mono h ?_))
  rintro v σ ⟨x35_6, rfl, h⟩
  refine Lp (V_move rfl rfl) rfl rfl ?_
  refine Ls rfl rfl (X_call rfl Tryz.func18 rfl rfl rfl (ACalls.mono h ?_))
  rintro v σ ⟨x37_7, x37_8, rfl, h⟩
  refine Lp (V_move rfl rfl) rfl rfl ?_
  refine Lp (V_ext rfl rfl rfl) rfl rfl ?_
  refine Lp (V_ext rfl rfl rfl) rfl rfl ?_
  refine Lp (V_asg rfl rfl) rfl rfl ?_
  refine Lp (V_asg rfl rfl) rfl rfl ?_
  refine Lnil ?_
  refine thenN ?_
  refine AW.seq ?_
  refine AW.reg ?_
  refine Lp (V_move rfl rfl) rfl rfl ?_
  refine Lp (V_move rfl rfl) rfl rfl ?_
  refine Lp (V_move rfl rfl) rfl rfl ?_
  refine Ls rfl rfl (X_call rfl Tryz.func19 rfl rfl rfl (ACalls.mono h ?_))
  rintro v σ ⟨x44_9, x44_10, rfl, h⟩
  refine Lp (V_move rfl rfl) rfl rfl ?_
  refine Lp (V_ext rfl rfl rfl) rfl rfl ?_
  refine Lp (V_ext rfl rfl rfl) rfl rfl ?_
  refine Lp (V_asg rfl rfl) rfl rfl ?_
  refine Lp (V_asg rfl rfl) rfl rfl ?_
  refine Lnil ?_
  refine thenN ?_
  refine AW.seq ?_
  refine AW.seq ?_
  refine AW.reg ?_
  refine Lp (V_move rfl rfl) rfl rfl ?_
  refine Lp (V_move rfl rfl) rfl rfl ?_
  refine Lp (V_neq rfl rfl rfl) rfl rfl ?_
  refine Lp (V_move rfl rfl) rfl rfl ?_
  refine Lsplit 6 (!(decide (x37_8 = x44_10))) [(6, Sl.v x31_5), (7, Sl.v x37_7), (9, Sl.v x44_9), (56, .bool ((!(decide (x37_8 = x44_10))) || (!(decide ((x37_7.len : Int) = (x44_9.len : Int))))))] ?_ ?_ ?_
  · intro e3 hk3
    refine Ln rfl rfl rfl rfl (.inl (by rw [e3]; rfl)) ?_
    refine Ln rfl rfl rfl rfl (.inl (by rw [e3]; rfl)) ?_
    refine Ln rfl rfl rfl rfl (.inl (by rw [e3]; rfl)) ?_
    refine Ln rfl rfl rfl rfl (.inl (by rw [e3]; rfl)) ?_
    refine Ln rfl rfl rfl rfl (.inl (by rw [e3]; rfl)) ?_
    refine Lp (V_pickT rfl (evb e3) rfl) rfl rfl ?_
    exact hk3 _ (FrLe.cons rfl (FrLe.cons rfl (FrLe.cons rfl (FrLe.cons (by rw [e3]; rfl) (FrLe.nil _)))))
  · intro e3 hk3
    refine Lypb (V_move rfl rfl) rfl rfl rfl rfl e3 ?_
    refine Lypb (V_lenL rfl rfl Tryz.underlying44 rfl rfl) rfl rfl rfl rfl e3 ?_
    refine Lypb (V_move rfl rfl) rfl rfl rfl rfl e3 ?_
    refine Lypb (V_lenL rfl rfl Tryz.underlying44 rfl rfl) rfl rfl rfl rfl e3 ?_
    refine Lypb (V_neq rfl rfl rfl) rfl rfl rfl rfl e3 ?_
    refine Lp (V_pickF rfl (evb e3) rfl) rfl rfl ?_
    exact hk3 _ (FrLe.cons rfl (FrLe.cons rfl (FrLe.cons rfl (FrLe.cons (by rw [e3]; rfl) (FrLe.nil _)))))
  intro fr hl
  refine Lfr hl ?_
  refine Lnil ?_
  refine thenN ?_
  refine AW.iff rfl (bor_iff (bnot_iff decide_eq_true_iff) (bnot_iff decide_eq_true_iff)) h (fun h => ?_) (fun h => ?_)
  · refine AW.seq ?_
    refine AW.reg ?_
    refine Lp (V_asg rfl rfl) rfl rfl ?_
    refine Lnil ?_
    refine thenN ?_
    refine AW.ret ?_
    refine thenR ?_
    exact bR1 Tryz.results4 rfl ⟨_, rfl, h⟩
  refine AW.skip ?_
  refine thenN ?_
  refine AW.seqJ (fun fr σ => FrLe [(6, Sl.v x31_5)] fr ∧ j11_law05_SnapChunks B ro x31_5 Q σ) ?_ ?_
  rotate_left
  · refine AW.seq ?_
    refine AW.reg ?_
    refine Lp (V_move rfl rfl) rfl rfl ?_
    refine Lp (V_lenL rfl rfl Tryz.underlying44 rfl rfl) rfl rfl ?_
    refine Lp (V_move rfl rfl) rfl rfl ?_
    refine Lnil ?_
    refine thenN ?_
    refine AW.block ?_
    refine ARound.loop (fr' := [(6, Sl.v x31_5), (7, Sl.v x37_7), (9, Sl.v x44_9), (58, .int .i64 (x37_7.len : Int)), (59, .int .i64 0)]) ?_ (FrLe.cons rfl (FrLe.cons rfl (FrLe.cons rfl (FrLe.cons rfl (FrLe.cons rfl (FrLe.nil _))))))
    refine h (fun x59_47 σ => ARound _ _ _ _ _ _ [(6, Sl.v x31_5), (7, Sl.v x37_7), (9, Sl.v x44_9), (58, .int .i64 (x37_7.len : Int)), (59, .int .i64 x59_47)] σ) ?_
    rintro x59_47 σ Y46 hY46 h
    show AW _ _ _ _ _ _ _ _
    unfold l46_law05_SnapChunks at h
    refine AW.seq ?_
    refine AW.reg ?_
    refine Lp (V_lss rfl rfl rfl) rfl rfl ?_
    refine Lnil ?_
    refine thenN ?_
    refine AW.seq ?_
    refine AW.iff rfl decide_eq_true_iff h (fun h => ?_) (fun h => ?_)
    rotate_left
    · refine AW.exit ?_
      refine thenE ?_
      refine thenE ?_
      refine blockE ?_
      refine thenN ?_
      exact ⟨(FrLe.cons rfl (FrLe.nil _)), h⟩
    refine AW.skip ?_
    refine thenN ?_
    refine AW.seq ?_
    refine AW.block ?_
    refine AW.seq ?_
    refine AW.reg ?_
    refine Lp (V_move rfl rfl) rfl rfl ?_
    refine Lp (V_asg rfl rfl) rfl rfl ?_
    refine Lnil ?_
    refine thenN ?_
    refine AW.seq ?_
    refine AW.drawn0 (fun i => ([0, 0, 0, 3, 0, 0, 0, 3, 2, 0] : List Nat).getD i 2) [] [0, 1, 2, 4, 5, 6, 3, 7, 8, 9] Tryz.mixed (by decide +kernel) ?_
    refine Dp rfl rfl rfl rfl (V_move rfl rfl) ?_
    refine Dp rfl rfl rfl rfl (V_move rfl rfl) ?_
    obtain ⟨p64_48, ha, h0, h1, h⟩ := h
    refine Dp rfl rfl rfl rfl (V_ixA rfl Tryz.underlying44 ty22 (ixL rfl ha) rfl h0 h1) ?_
    refine Dp rfl rfl rfl rfl (V_move rfl rfl) ?_
    refine Dp rfl rfl rfl rfl (V_move rfl rfl) ?_
    obtain ⟨p68_49, ha, h0, h1, h⟩ := h
    refine Dp rfl rfl rfl rfl (V_ixA rfl Tryz.underlying44 ty22 (ixL rfl ha) rfl h0 h1) ?_
    obtain ⟨x65_50, hc, h⟩ := h
    refine Dr rfl rfl rfl rfl (R_ld rfl Tryz.underlying22 rfl rfl hc) ?_
    obtain ⟨x69_51, hc, h⟩ := h
    refine Dr rfl rfl rfl rfl (R_ld rfl Tryz.underlying22 rfl rfl hc) ?_
    refine Dg rfl rfl rfl rfl (X_call rfl Tryz.func17 rfl rfl rfl (ACalls.mono h ?_))
    rintro v σ ⟨x70_52, rfl, h⟩
    refine Dp rfl rfl rfl rfl (V_not rfl rfl) ?_
    refine Dend ?_
    refine thenN ?_
    refine AW.iff rfl (bnot_iff Iff.rfl) h (fun h => ?_) (fun h => ?_)
    · refine AW.seq ?_
      refine AW.reg ?_
      refine Lp (V_asg rfl rfl) rfl rfl ?_
      refine Lnil ?_
      refine thenN ?_
      refine AW.ret ?_
      refine blockR ?_
      refine thenR ?_
      refine thenR ?_
      refine blockR ?_
      refine thenR ?_
      exact bR1 Tryz.results4 rfl ⟨_, rfl, h⟩
    refine AW.skip ?_
    refine blockN ?_
    refine thenN ?_
    refine AW.reg ?_
    refine Lp (V_add rfl rfl rfl) rfl rfl ?_
    refine Lp (V_move rfl rfl) rfl rfl ?_
    refine Lnil ?_
    refine thenN ?_
    refine ARound.head (fr' := [(6, Sl.v x31_5), (7, Sl.v x37_7), (9, Sl.v x44_9), (58, .int .i64 (x37_7.len : Int)), (59, .int .i64 (IntKind.i64.wrap (x59_47 + 1)))]) ?_ (FrLe.cons rfl (FrLe.cons rfl (FrLe.cons rfl (FrLe.cons rfl (FrLe.cons rfl (FrLe.nil _))))))
    exact hY46 _ _ h
  rintro fr σ ⟨hl, h⟩
  refine AW.weaken ?_ hl (HLe.refl _)
  unfold j11_law05_SnapChunks at h
  refine AW.seq ?_
  refine AW.reg ?_
  refine Ls rfl rfl (X_call rfl Tryz.func20 rfl rfl rfl (ACalls.mono h ?_))
  rintro v σ ⟨x73_12, rfl, h⟩
  refine Lp (V_asg rfl rfl) rfl rfl ?_
  refine Lnil ?_
  refine thenN ?_
  refine AW.seq ?_
  refine AW.reg ?_
  refine Lp (V_bld (vs := []) (cs := #[Sl.v (⟨none, 0, 0⟩ : Sl)]) rfl Tryz.underlying56 ty56 pl56 rfl rfl) rfl rfl ?_
  refine Ls rfl rfl (X_new (A_box rfl rfl) fun x75_13 g1 g2 => ?_)
  replace h := h x75_13 g1 g2
  refine Lp (V_asg rfl rfl) rfl rfl ?_
  refine Lnil ?_
  refine thenN ?_
  refine AW.seq ?_
  refine AW.seq ?_
  refine AW.reg ?_
  refine Lp (V_move rfl rfl) rfl rfl ?_
  refine Lp (V_eqP rfl Tryz.underlying51 rfl rfl) rfl rfl ?_
  refine Lnil ?_
  refine thenN ?_
  refine AW.iff rfl isNone_iff h (fun h => ?_) (fun h => ?_)
  · refine AW.seq ?_
    refine AW.reg ?_
    refine Lp (V_asg rfl rfl) rfl rfl ?_
    refine Lnil ?_
    refine thenN ?_
    refine AW.ret ?_
    refine thenR ?_
    exact bR1 Tryz.results4 rfl ⟨_, rfl, h⟩
  refine AW.skip ?_
  refine thenN ?_
  refine AW.seqJ (fun fr σ => FrLe [] fr ∧ j14_law05_SnapChunks B ro Q σ) ?_ ?_
  · rintro fr σ ⟨hl, h⟩
    refine AW.weaken ?_ hl (HLe.refl _)
    unfold j14_law05_SnapChunks at h
    refine AW.seq ?_
    refine AW.reg ?_
    refine Ls rfl rfl (X_call rfl Tryz.func10 rfl rfl rfl (ACalls.mono h ?_))
    rintro v σ ⟨x144_15, rfl, h⟩
    refine Lp (V_asg rfl rfl) rfl rfl ?_
    refine Lnil ?_
    refine thenN ?_
    refine AW.ret ?_
    exact bR1 Tryz.results4 rfl ⟨_, rfl, h⟩
  refine AW.seq ?_
  refine AW.reg ?_
  refine Lp (V_move rfl rfl) rfl rfl ?_
  refine Lp (V_lenL rfl rfl Tryz.underlying44 rfl rfl) rfl rfl ?_
  refine Lp (V_move rfl rfl) rfl rfl ?_
  refine Lnil ?_
  refine thenN ?_
  refine AW.block ?_
  refine ARound.loop (fr' := [(12, .pointer x73_12), (13, .pointer (some ⟨x75_13, 0, none⟩)), (78, Sl.v x31_5), (79, .int .i64 (x31_5.len : Int)), (80, .int .i64 0)]) ?_ (FrLe.cons rfl (FrLe.cons rfl (FrLe.cons rfl (FrLe.cons rfl (FrLe.cons rfl (FrLe.nil _))))))
  refine h (fun x80_17 σ => ARound _ _ _ _ _ _ [(12, .pointer x73_12), (13, .pointer (some ⟨x75_13, 0, none⟩)), (78, Sl.v x31_5), (79, .int .i64 (x31_5.len : Int)), (80, .int .i64 x80_17)] σ) ?_
  rintro x80_17 σ Y16 hY16 h
  show AW _ _ _ _ _ _ _ _
  unfold l16_law05_SnapChunks at h
  refine AW.seq ?_
  refine AW.reg ?_
  refine Lp (V_lss rfl rfl rfl) rfl rfl ?_
  refine Lnil ?_
  refine thenN ?_
  refine AW.seq ?_
  refine AW.iff rfl decide_eq_true_iff h (fun h => ?_) (fun h => ?_)
  rotate_left
  · refine AW.exit ?_
    refine thenE ?_
    refine thenE ?_
    refine blockE ?_
    refine thenN ?_
    exact ⟨(FrLe.nil _), h⟩
  refine AW.skip ?_
  refine thenN ?_
  refine AW.seqJ (fun fr σ => FrLe [(12, .pointer x73_12), (13, .pointer (some ⟨x75_13, 0, none⟩)), (78, Sl.v x31_5), (79, .int .i64 (x31_5.len : Int)), (80, .int .i64 x80_17)] fr ∧ j18_law05_SnapChunks B ro x31_5 x73_12 x75_13 x80_17 Q Y16 σ) ?_ ?_
  · rintro fr σ ⟨hl, h⟩
    refine AW.weaken ?_ hl (HLe.refl _)
    unfold j18_law05_SnapChunks at h
    refine AW.reg ?_
    refine Lp (V_add rfl rfl rfl) rfl rfl ?_
    refine Lp (V_move rfl rfl) rfl rfl ?_
    refine Lnil ?_
    refine thenN ?_
    refine ARound.head (fr' := [(12, .pointer x73_12), (13, .pointer (some ⟨x75_13, 0, none⟩)), (78, Sl.v x31_5), (79, .int .i64 (x31_5.len : Int)), (80, .int .i64 (IntKind.i64.wrap (x80_17 + 1)))]) ?_ (FrLe.cons rfl (FrLe.cons rfl (FrLe.cons rfl (FrLe.cons rfl (FrLe.cons rfl (FrLe.nil _))))))
    exact hY16 _ _ h
  refine AW.block ?_
  refine AW.seq ?_
  refine AW.reg ?_
  obtain ⟨p82_19, ha, h0, h1, h⟩ := h
  refine Lp (V_ixA rfl Tryz.underlying44 ty22 (ixL rfl ha) rfl h0 h1) rfl rfl ?_
  obtain ⟨x83_20, hc, h⟩ := h
  refine Ls rfl rfl (X_ld rfl Tryz.underlying22 rfl rfl hc ?_)
  refine Lp (V_asg rfl rfl) rfl rfl ?_
  refine Lnil ?_
  refine thenN ?_
  refine AW.seq ?_
  refine AW.reg ?_
  refine Lp (V_move rfl rfl) rfl rfl ?_
  refine Ls rfl rfl (X_call rfl Tryz.func12 rfl rfl rfl (ACalls.mono h ?_))
  rintro v σ ⟨x85_21, rfl, h⟩
  refine Lp (V_asg rfl rfl) rfl rfl ?_
  refine Lnil ?_
  refine thenN ?_
  refine AW.seq ?_
  refine AW.seq ?_
  refine AW.reg ?_
  refine Lp (V_move rfl rfl) rfl rfl ?_
  refine Lp (V_move rfl rfl) rfl rfl ?_
  refine Ls rfl rfl (X_new (A_bsl (vs := [(0, Sl.v x85_21)]) (cs := #[Sl.v x85_21]) rfl Tryz.underlying44 ty22 (by decide) rfl rfl) fun x88_22 g1 g2 => ?_)
  replace h := h x88_22 g1 g2
  refine Ls rfl rfl (X_call rfl Tryz.func21 rfl rfl rfl (ACalls.mono h ?_))
  rintro v σ ⟨x89_23, rfl, h⟩
  refine Lp (V_move rfl rfl) rfl rfl ?_
  refine Lp (V_move rfl rfl) rfl rfl ?_
  refine Ls rfl rfl (X_new (A_bsl (vs := [(0, Sl.v x83_20)]) (cs := #[Sl.v x83_20]) rfl Tryz.underlying44 ty22 (by decide) rfl rfl) fun x92_24 g1 g2 => ?_)
  replace h := h x92_24 g1 g2
  refine Ls rfl rfl (X_call rfl Tryz.func22 rfl rfl rfl (ACalls.mono h ?_))
  rintro v σ ⟨x93_25, rfl, h⟩
  refine Lp (V_neq rfl rfl rfl) rfl rfl ?_
  refine Lnil ?_
  refine thenN ?_
  refine AW.iff rfl (bnot_iff decide_eq_true_iff) h (fun h => ?_) (fun h => ?_)
  · refine AW.seq ?_
    refine AW.reg ?_
    refine Lp (V_asg rfl rfl) rfl rfl ?_
    refine Lnil ?_
    refine thenN ?_
    refine AW.ret ?_
    refine thenR ?_
    refine blockR ?_
    refine thenR ?_
    refine thenR ?_
    refine blockR ?_
    refine thenR ?_
    exact bR1 Tryz.results4 rfl ⟨_, rfl, h⟩
  refine AW.skip ?_
  refine thenN ?_
  refine AW.seqJ (fun fr σ => FrLe [(12, .pointer x73_12), (13, .pointer (some ⟨x75_13, 0, none⟩)), (78, Sl.v x31_5), (79, .int .i64 (x31_5.len : Int)), (80, .int .i64 x80_17)] fr ∧ j26_law05_SnapChunks B ro x31_5 x73_12 x75_13 x80_17 Q Y16 σ) ?_ ?_
  rotate_left
  · refine AW.seq ?_
    refine AW.reg ?_
    refine Lp (V_move rfl rfl) rfl rfl ?_
    refine Lp (V_lenL rfl rfl Tryz.underlying22 rfl rfl) rfl rfl ?_
    refine Lp (V_move rfl rfl) rfl rfl ?_
    refine Lnil ?_
    refine thenN ?_
    refine AW.block ?_
    refine ARound.loop (fr' := [(12, .pointer x73_12), (13, .pointer (some ⟨x75_13, 0, none⟩)), (16, Sl.v x85_21), (78, Sl.v x31_5), (79, .int .i64 (x31_5.len : Int)), (80, .int .i64 x80_17), (96, .int .i64 (x85_21.len : Int)), (97, .int .i64 0)]) ?_ (FrLe.cons rfl (FrLe.cons rfl (FrLe.cons rfl (FrLe.cons rfl (FrLe.cons rfl (FrLe.cons rfl (FrLe.cons rfl (FrLe.cons rfl (FrLe.nil _)))))))))
    refine h (fun x97_42 σ => ARound _ _ _ _ _ _ [(12, .pointer x73_12), (13, .pointer (some ⟨x75_13, 0, none⟩)), (16, Sl.v x85_21), (78, Sl.v x31_5), (79, .int .i64 (x31_5.len : Int)), (80, .int .i64 x80_17), (96, .int .i64 (x85_21.len : Int)), (97, .int .i64 x97_42)] σ) ?_
    rintro x97_42 σ Y41 hY41 h
    show AW _ _ _ _ _ _ _ _
    unfold l41_law05_SnapChunks at h
    refine AW.seq ?_
    refine AW.reg ?_
    refine Lp (V_lss rfl rfl rfl) rfl rfl ?_
    refine Lnil ?_
    refine thenN ?_
    refine AW.seq ?_
    refine AW.iff rfl decide_eq_true_iff h (fun h => ?_) (fun h => ?_)
    rotate_left
    · refine AW.exit ?_
      refine thenE ?_
      refine thenE ?_
      refine blockE ?_
      refine thenN ?_
      exact ⟨(FrLe.cons rfl (FrLe.cons rfl (FrLe.cons rfl (FrLe.cons rfl (FrLe.cons rfl (FrLe.nil _)))))), h⟩
    refine AW.skip ?_
    refine thenN ?_
    refine AW.seq ?_
    refine AW.block ?_
    refine AW.seq ?_
    refine AW.reg ?_
    refine Lp (V_move rfl rfl) rfl rfl ?_
    refine Lp (V_asg rfl rfl) rfl rfl ?_
    refine Lnil ?_
    refine thenN ?_
    refine AW.reg ?_
    refine Lp (V_move rfl rfl) rfl rfl ?_
    refine Lp (V_move rfl rfl) rfl rfl ?_
    refine Lp (V_move rfl rfl) rfl rfl ?_
    refine Lp (V_move rfl rfl) rfl rfl ?_
    obtain ⟨p104_43, ha, h0, h1, h⟩ := h
    refine Lp (V_ixA rfl Tryz.underlying22 ty5 (ixL rfl ha) rfl h0 h1) rfl rfl ?_
    obtain ⟨x105_44, hc, h⟩ := h
    refine Ls rfl rfl (X_ld rfl Tryz.underlying5 rfl rfl hc ?_)
    refine Lp (V_inv rfl rfl) rfl rfl ?_
    obtain ⟨p107_45, ha, h0, h1, h⟩ := h
    refine Lp (V_ixA rfl Tryz.underlying22 ty5 (ixL rfl ha) rfl h0 h1) rfl rfl ?_
    refine Ls rfl rfl (X_st rfl ty5 rfl rfl rfl rfl (stN_mono h fun σ h => ?_))
    refine Lnil ?_
    refine blockN ?_
    refine thenN ?_
    refine AW.reg ?_
    refine Lp (V_add rfl rfl rfl) rfl rfl ?_
    refine Lp (V_move rfl rfl) rfl rfl ?_
    refine Lnil ?_
    refine thenN ?_
    refine ARound.head (fr' := [(12, .pointer x73_12), (13, .pointer (some ⟨x75_13, 0, none⟩)), (16, Sl.v x85_21), (78, Sl.v x31_5), (79, .int .i64 (x31_5.len : Int)), (80, .int .i64 x80_17), (96, .int .i64 (x85_21.len : Int)), (97, .int .i64 (IntKind.i64.wrap (x97_42 + 1)))]) ?_ (FrLe.cons rfl (FrLe.cons rfl (FrLe.cons rfl (FrLe.cons rfl (FrLe.cons rfl (FrLe.cons rfl (FrLe.cons rfl (FrLe.cons rfl (FrLe.nil _)))))))))
    exact hY41 _ _ h
  rintro fr σ ⟨hl, h⟩
  refine AW.weaken ?_ hl (HLe.refl _)
  unfold j26_law05_SnapChunks at h
  refine AW.seq ?_
  refine AW.reg ?_
  refine Lp (V_move rfl rfl) rfl rfl ?_
  refine Ls rfl rfl (X_call rfl Tryz.func23 rfl rfl rfl (ACalls.mono h ?_))
  rintro v σ ⟨x111_27, x111_28, x111_29, rfl, h⟩
  refine Lp (V_move rfl rfl) rfl rfl ?_
  refine Lp (V_ext rfl rfl rfl) rfl rfl ?_
  refine Lp (V_ext rfl rfl rfl) rfl rfl ?_
  refine Lp (V_ext rfl rfl rfl) rfl rfl ?_
  refine Lp (V_asg rfl rfl) rfl rfl ?_
  refine Lp (V_asg rfl rfl) rfl rfl ?_
  refine Lp (V_asg rfl rfl) rfl rfl ?_
  refine Lnil ?_
  refine thenN ?_
  refine AW.seq ?_
  refine AW.reg ?_
  refine Lp (V_move rfl rfl) rfl rfl ?_
  refine Ls rfl rfl (X_call rfl Tryz.func24 rfl rfl rfl (ACalls.mono h ?_))
  rintro v σ ⟨x117_30, x117_31, x117_32, rfl, h⟩
  refine Lp (V_move rfl rfl) rfl rfl ?_
  refine Lp (V_ext rfl rfl rfl) rfl rfl ?_
  refine Lp (V_ext rfl rfl rfl) rfl rfl ?_
  refine Lp (V_ext rfl rfl rfl) rfl rfl ?_
  refine Lp (V_asg rfl rfl) rfl rfl ?_
  refine Lp (V_asg rfl rfl) rfl rfl ?_
  refine Lp (V_asg rfl rfl) rfl rfl ?_
  refine Lnil ?_
  refine thenN ?_
  refine AW.seq ?_
  refine AW.reg ?_
  refine Lp (V_move rfl rfl) rfl rfl ?_
  refine Lp (V_move rfl rfl) rfl rfl ?_
  refine Lp (V_neq rfl rfl rfl) rfl rfl ?_
  refine Lp (V_move rfl rfl) rfl rfl ?_
  refine Lsplit 4 (!(decide (x111_27 = x117_30))) [(12, .pointer x73_12), (13, .pointer (some ⟨x75_13, 0, none⟩)), (19, Sl.v x111_28), (22, Sl.v x117_31), (78, Sl.v x31_5), (79, .int .i64 (x31_5.len : Int)), (80, .int .i64 x80_17), (128, .bool ((!(decide (x111_27 = x117_30))) || (!(x111_29 == x117_32))))] ?_ ?_ ?_
  · intro e3 hk3
    refine Ln rfl rfl rfl rfl (.inl (by rw [e3]; rfl)) ?_
    refine Ln rfl rfl rfl rfl (.inl (by rw [e3]; rfl)) ?_
    refine Ln rfl rfl rfl rfl (.inl (by rw [e3]; rfl)) ?_
    refine Lp (V_pickT rfl (evb e3) rfl) rfl rfl ?_
    exact hk3 _ (FrLe.cons rfl (FrLe.cons rfl (FrLe.cons rfl (FrLe.cons rfl (FrLe.cons rfl (FrLe.cons rfl (FrLe.cons rfl (FrLe.cons (by rw [e3]; rfl) (FrLe.nil _)))))))))
  · intro e3 hk3
    refine Lypb (V_move rfl rfl) rfl rfl rfl rfl e3 ?_
    refine Lypb (V_move rfl rfl) rfl rfl rfl rfl e3 ?_
    refine Lypb (V_neB rfl Tryz.underlying4 rfl rfl) rfl rfl rfl rfl e3 ?_
    refine Lp (V_pickF rfl (evb e3) rfl) rfl rfl ?_
    exact hk3 _ (FrLe.cons rfl (FrLe.cons rfl (FrLe.cons rfl (FrLe.cons rfl (FrLe.cons rfl (FrLe.cons rfl (FrLe.cons rfl (FrLe.cons (by rw [e3]; rfl) (FrLe.nil _)))))))))
  intro fr hl
  refine Lfr hl ?_
  refine Lp (V_move rfl rfl) rfl rfl ?_
  refine LsplitJ 5 ((!(decide (x111_27 = x117_30))) || (!(x111_29 == x117_32))) (bor_iff (bnot_iff decide_eq_true_iff) (bnot_iff beq_iff')) h (fun fr σ => ∃ (x134_34 : Bool), FrLe [(12, .pointer x73_12), (13, .pointer (some ⟨x75_13, 0, none⟩)), (78, Sl.v x31_5), (79, .int .i64 (x31_5.len : Int)), (80, .int .i64 x80_17), (134, .bool x134_34)] fr ∧ j33_law05_SnapChunks B ro x31_5 x73_12 x75_13 x80_17 Q Y16 x134_34 σ) ?_ ?_ ?_
  · intro h e8 hk8
    refine Ln rfl rfl rfl rfl (.inl (by rw [e8]; rfl)) ?_
    refine Ln rfl rfl rfl rfl (.inl (by rw [e8]; rfl)) ?_
    refine Ln rfl rfl rfl rfl (.inl (by rw [e8]; rfl)) ?_
    refine Ln rfl rfl rfl rfl (.inl (by rw [e8]; rfl)) ?_
    refine Lp (V_pickT rfl (evb e8) rfl) rfl rfl ?_
    exact hk8 _ _ ⟨_, (FrLe.cons rfl (FrLe.cons rfl (FrLe.cons rfl (FrLe.cons rfl (FrLe.cons rfl (FrLe.cons rfl (FrLe.nil _))))))), h⟩
  · intro h e8 hk8
    refine Lypb (V_move rfl rfl) rfl rfl rfl rfl e8 ?_
    refine Lypb (V_move rfl rfl) rfl rfl rfl rfl e8 ?_
    refine Lyb rfl rfl rfl rfl e8 (X_call rfl Tryz.func17 rfl rfl rfl (ACalls.mono h ?_))
    rintro v σ ⟨x132_40, rfl, h⟩
    refine Lypb (V_not rfl rfl) rfl rfl rfl rfl e8 ?_
    refine Lp (V_pickF rfl (evb e8) rfl) rfl rfl ?_
    exact hk8 _ _ ⟨_, (FrLe.cons rfl (FrLe.cons rfl (FrLe.cons rfl (FrLe.cons rfl (FrLe.cons rfl (FrLe.cons rfl (FrLe.nil _))))))), h⟩
  rintro fr σ ⟨x134_34, hl, h⟩
  unfold j33_law05_SnapChunks at h
  refine Lfr hl ?_
  refine Lp (V_move rfl rfl) rfl rfl ?_
  refine LsplitJ 7 x134_34 Iff.rfl h (fun fr σ => ∃ (x142_36 : Bool), FrLe [(12, .pointer x73_12), (13, .pointer (some ⟨x75_13, 0, none⟩)), (78, Sl.v x31_5), (79, .int .i64 (x31_5.len : Int)), (80, .int .i64 x80_17), (142, .bool x142_36)] fr ∧ j35_law05_SnapChunks B ro x31_5 x73_12 x75_13 x80_17 Q Y16 x142_36 σ) ?_ ?_ ?_
  · intro h e14 hk14
    refine Ln rfl rfl rfl rfl (.inl (by rw [e14]; rfl)) ?_
    refine Ln rfl rfl rfl rfl (.inl (by rw [e14]; rfl)) ?_
    refine Ln rfl rfl rfl rfl (.inl (by rw [e14]; rfl)) ?_
    refine Ln rfl rfl rfl rfl (.inl (by rw [e14]; rfl)) ?_
    refine Ln rfl rfl rfl rfl (.inl (by rw [e14]; rfl)) ?_
    refine Ln rfl rfl rfl rfl (.inl (by rw [e14]; rfl)) ?_
    refine Lp (V_pickT rfl (evb e14) rfl) rfl rfl ?_
    exact hk14 _ _ ⟨_, (FrLe.cons rfl (FrLe.cons rfl (FrLe.cons rfl (FrLe.cons rfl (FrLe.cons rfl (FrLe.cons rfl (FrLe.nil _))))))), h⟩
  · intro h e14 hk14
    refine Lypb (V_move rfl rfl) rfl rfl rfl rfl e14 ?_
    refine Lyb rfl rfl rfl rfl e14 (X_call rfl Tryz.func26 rfl rfl rfl (ACalls.mono h ?_))
    rintro v σ ⟨x137_37, rfl, h⟩
    refine Lypb (V_move rfl rfl) rfl rfl rfl rfl e14 ?_
    refine Lyb rfl rfl rfl rfl e14 (X_call rfl Tryz.func27 rfl rfl rfl (ACalls.mono h ?_))
    rintro v σ ⟨x139_38, rfl, h⟩
    refine Lyb rfl rfl rfl rfl e14 (X_call rfl Tryz.func25 rfl rfl rfl (ACalls.mono h ?_))
    rintro v σ ⟨x140_39, rfl, h⟩
    refine Lypb (V_not rfl rfl) rfl rfl rfl rfl e14 ?_
    refine Lp (V_pickF rfl (evb e14) rfl) rfl rfl ?_
    exact hk14 _ _ ⟨_, (FrLe.cons rfl (FrLe.cons rfl (FrLe.cons rfl (FrLe.cons rfl (FrLe.cons rfl (FrLe.cons rfl (FrLe.nil _))))))), h⟩
  rintro fr σ ⟨x142_36, hl, h⟩
  unfold j35_law05_SnapChunks at h
  refine Lfr hl ?_
  refine Lnil ?_
  refine thenN ?_
  refine AW.iff rfl Iff.rfl h (fun h => ?_) (fun h => ?_)
  rotate_left
  · refine AW.skip ?_
    refine blockN ?_
    refine thenN ?_
    exact ⟨(FrLe.cons rfl (FrLe.cons rfl (FrLe.cons rfl (FrLe.cons rfl (FrLe.cons rfl (FrLe.nil _)))))), h⟩
  refine AW.seq ?_
  refine AW.reg ?_
  refine Lp (V_asg rfl rfl) rfl rfl ?_
  refine Lnil ?_
  refine thenN ?_
  refine AW.ret ?_
  refine blockR ?_
  refine thenR ?_
  refine thenR ?_
  refine blockR ?_
  refine thenR ?_
  exact bR1 Tryz.results4 rfl ⟨_, rfl, h⟩

def j9_law05_awake (B : World) (ro : AH) (Q : Bool → AH → Prop) (x40_10 : Bool) (σ : AH) : Prop :=
 Q x40_10 σ

def j3_law05_awake (B : World) (ro : AH) (x8_1 : Option Addr) (Q : Bool → AH → Prop) (x19_4 : Bool) (σ : AH) : Prop :=
 if x19_4 = true then
  Q false σ
 else
 c_snap_Load B ro x8_1 (⟨#[115]⟩ : ByteArray) σ fun x22_5 x22_6 x22_7 x22_8 σ =>
 if ((x22_8 = 0) ∧ (x22_7 = true)) ∧ (x22_5 = 1) then
  awp Tryz.prog ro (convert 22 9 (Sl.v x22_6)) (fun v σ =>
   (∃ (x38_11 : ByteArray), v = .string x38_11 ∧
    j9_law05_awake B ro Q (decide (x38_11 = (⟨#[111, 110, 101]⟩ : ByteArray))) σ)) σ
 else
 j9_law05_awake B ro Q false σ

def f_law05_awake (B : World) (ro : AH) (σ : AH) (Q : Bool → AH → Prop) : Prop :=
 c_disk_New B ro 999 σ fun x8_1 x8_2 σ =>
 if x8_1 = none then
  j3_law05_awake B ro x8_1 Q true σ
 else
 nw ro σ (.cells #[.int .u8 111, .int .u8 110, .int .u8 101] 5) fun x15_12 σ =>
 awp Tryz.prog ro (convert 22 22 (Sl.v (⟨some ⟨x15_12, 0, none⟩, 3, 3⟩ : Sl))) (fun v σ =>
  (∃ (x16_13 : Sl), v = Sl.v x16_13 ∧
   c_snap_Save B ro x8_1 (⟨#[115]⟩ : ByteArray) 1 x16_13 σ fun x17_14 σ =>
   j3_law05_awake B ro x8_1 Q (!(decide (x17_14 = 0))) σ)) σ

set_option maxRecDepth 100000 in
set_option maxHeartbeats 4000000 in
theorem law05_awake_ok {B : World} {ro : AH} {σ : AH} {Q : Bool → AH → Prop} (h : Sep ro σ → f_law05_awake B ro σ Q) : c_law05_awake B ro σ Q := by
  refine ACalls.of_sep fun hsep => ?_
  replace h := h hsep
  refine ACalls.of_body (args := []) Tryz.func10 rfl (by rw [Tryz.ntmps10]; simp) ?_
  rw [Tryz.ntmps10]
  unfold f_law05_awake at h
  refine AW.seq ?_
  refine AW.reg ?_
  refine Lp (V_asg rfl rfl) rfl rfl ?_
  refine Lnil ?_
  refine thenN ?_
  refine AW.seq ?_
  refine AW.reg ?_
  refine Ls rfl rfl (X_call rfl Tryz.func9 rfl rfl rfl (ACalls.mono h ?_))
  rintro v σ ⟨x8_1, x8_2, rfl, h⟩
  refine Lp (V_move rfl rfl) rfl rfl ?_
  refine Lp (V_ext rfl rfl rfl) rfl rfl ?_
  refine Lp (V_ext rfl rfl rfl) rfl rfl ?_
  refine Lp (V_asg rfl rfl) rfl rfl ?_
  refine Lp (V_asg rfl rfl) rfl rfl ?_
  refine Lnil ?_
  refine thenN ?_
  refine AW.seq ?_
  refine AW.seq ?_
  refine AW.reg ?_
  refine Lp (V_move rfl rfl) rfl rfl ?_
  refine Lp (V_eqP rfl Tryz.underlying26 rfl rfl) rfl rfl ?_
  refine Lp (V_move rfl rfl) rfl rfl ?_
  refine LsplitJ 6 x8_1.isNone isNone_iff h (fun fr σ => ∃ (x19_4 : Bool), FrLe [(1, .pointer x8_1), (19, .bool x19_4)] fr ∧ j3_law05_awake B ro x8_1 Q x19_4 σ) ?_ ?_ ?_
  · intro h e2 hk2
    refine Ln rfl rfl rfl rfl (.inl (by rw [e2]; rfl)) ?_
    refine Ln rfl rfl rfl rfl (.inl (by rw [e2]; rfl)) ?_
    refine Ln rfl rfl rfl rfl (.inl (by rw [e2]; rfl)) ?_
    refine Ln rfl rfl rfl rfl (.inl (by rw [e2]; rfl)) ?_
    refine Ln rfl rfl rfl rfl (.inl (by rw [e2]; rfl)) ?_
    refine Lp (V_pickT rfl (evb e2) rfl) rfl rfl ?_
    exact hk2 _ _ ⟨_, (FrLe.cons rfl (FrLe.cons rfl (FrLe.nil _))), h⟩
  · intro h e2 hk2
    refine Lypb (V_move rfl rfl) rfl rfl rfl rfl e2 ?_
    refine Lyb rfl rfl rfl rfl e2 (X_new (A_bsl (vs := [(0, .int .u8 111), (1, .int .u8 110), (2, .int .u8 101)]) (cs := #[.int .u8 111, .int .u8 110, .int .u8 101]) rfl Tryz.underlying22 ty5 (by decide) rfl rfl) fun x15_12 g1 g2 => ?_)
    replace h := h x15_12 g1 g2
    refine Lyb rfl rfl rfl rfl e2 (X_cvt rfl rfl (awp_mono _ h ?_))
    rintro v σ ⟨x16_13, rfl, h⟩
    refine Lyb rfl rfl rfl rfl e2 (X_call rfl Tryz.func11 rfl rfl rfl (ACalls.mono h ?_))
    rintro v σ ⟨x17_14, rfl, h⟩
    refine Lypb (V_neq rfl rfl rfl) rfl rfl rfl rfl e2 ?_
    refine Lp (V_pickF rfl (evb e2) rfl) rfl rfl ?_
    exact hk2 _ _ ⟨_, (FrLe.cons rfl (FrLe.cons rfl (FrLe.nil _))), h⟩
  rintro fr σ ⟨x19_4, hl, h⟩
  unfold j3_law05_awake at h
  refine Lfr hl ?_
  refine Lnil ?_
  refine thenN ?_
  refine AW.iff rfl Iff.rfl h (fun h => ?_) (fun h => ?_)
  · refine AW.seq ?_
    refine AW.reg ?_
    refine Lp (V_asg rfl rfl) rfl rfl ?_
    refine Lnil ?_
    refine thenN ?_
    refine AW.ret ?_
    refine thenR ?_
    exact bR1 Tryz.results10 rfl ⟨_, rfl, h⟩
  refine AW.skip ?_
  refine thenN ?_
  refine AW.seq ?_
  refine AW.reg ?_
  refine Lp (V_move rfl rfl) rfl rfl ?_
  refine Ls rfl rfl (X_call rfl Tryz.func13 rfl rfl rfl (ACalls.mono h ?_))
  rintro v σ ⟨x22_5, x22_6, x22_7, x22_8, rfl, h⟩
  refine Lp (V_move rfl rfl) rfl rfl ?_
  refine Lp (V_ext rfl rfl rfl) rfl rfl ?_
  refine Lp (V_ext rfl rfl rfl) rfl rfl ?_
  refine Lp (V_ext rfl rfl rfl) rfl rfl ?_
  refine Lp (V_ext rfl rfl rfl) rfl rfl ?_
  refine Lp (V_asg rfl rfl) rfl rfl ?_
  refine Lp (V_asg rfl rfl) rfl rfl ?_
  refine Lp (V_asg rfl rfl) rfl rfl ?_
  refine Lp (V_asg rfl rfl) rfl rfl ?_
  refine Lnil ?_
  refine thenN ?_
  refine AW.seq ?_
  refine AW.reg ?_
  refine Lp (V_move rfl rfl) rfl rfl ?_
  refine Lp (V_eql rfl rfl rfl) rfl rfl ?_
  refine Lp (V_move rfl rfl) rfl rfl ?_
  refine Lsplit 2 (decide (x22_8 = 0)) [(3, .int .i64 x22_5), (4, Sl.v x22_6), (31, .bool ((decide (x22_8 = 0)) && x22_7))] ?_ ?_ ?_
  · intro e2 hk2
    refine Lypb (V_move rfl rfl) rfl rfl rfl rfl e2 ?_
    refine Lp (V_pickT rfl (evb e2) rfl) rfl rfl ?_
    exact hk2 _ (FrLe.cons rfl (FrLe.cons rfl (FrLe.cons (by rw [e2]; rfl) (FrLe.nil _))))
  · intro e2 hk2
    refine Ln rfl rfl rfl rfl (.inl (by rw [e2]; rfl)) ?_
    refine Lp (V_pickF rfl (evb e2) rfl) rfl rfl ?_
    exact hk2 _ (FrLe.cons rfl (FrLe.cons rfl (FrLe.cons (by rw [e2]; rfl) (FrLe.nil _))))
  intro fr hl
  refine Lfr hl ?_
  refine Lp (V_move rfl rfl) rfl rfl ?_
  refine Lsplit 3 ((decide (x22_8 = 0)) && x22_7) [(4, Sl.v x22_6), (35, .bool (((decide (x22_8 = 0)) && x22_7) && (decide (x22_5 = 1))))] ?_ ?_ ?_
  · intro e5 hk5
    refine Lypb (V_move rfl rfl) rfl rfl rfl rfl e5 ?_
    refine Lypb (V_eql rfl rfl rfl) rfl rfl rfl rfl e5 ?_
    refine Lp (V_pickT rfl (evb e5) rfl) rfl rfl ?_
    exact hk5 _ (FrLe.cons rfl (FrLe.cons (by rw [e5]; rfl) (FrLe.nil _)))
  · intro e5 hk5
    refine Ln rfl rfl rfl rfl (.inl (by rw [e5]; rfl)) ?_
    refine Ln rfl rfl rfl rfl (.inl (by rw [e5]; rfl)) ?_
    refine Lp (V_pickF rfl (evb e5) rfl) rfl rfl ?_
    exact hk5 _ (FrLe.cons rfl (FrLe.cons (by rw [e5]; rfl) (FrLe.nil _)))
  intro fr hl
  refine Lfr hl ?_
  refine Lp (V_move rfl rfl) rfl rfl ?_
  refine LsplitJ 4 (((decide (x22_8 = 0)) && x22_7) && (decide (x22_5 = 1))) (band_iff (band_iff decide_eq_true_iff Iff.rfl) decide_eq_true_iff) h (fun fr σ => ∃ (x40_10 : Bool), FrLe [(40, .bool x40_10)] fr ∧ j9_law05_awake B ro Q x40_10 σ) ?_ ?_ ?_
  · intro h e9 hk9
    refine Lypb (V_move rfl rfl) rfl rfl rfl rfl e9 ?_
    refine Lyb rfl rfl rfl rfl e9 (X_cvt rfl rfl (awp_mono _ h ?_))
    rintro v σ ⟨x38_11, rfl, h⟩
    refine Lypb (V_eqlS rfl rfl rfl) rfl rfl rfl rfl e9 ?_
    refine Lp (V_pickT rfl (evb e9) rfl) rfl rfl ?_
    exact hk9 _ _ ⟨_, (FrLe.cons rfl (FrLe.nil _)), h⟩
  · intro h e9 hk9
    refine Ln rfl rfl rfl rfl (.inl (by rw [e9]; rfl)) ?_
    refine Ln rfl rfl rfl rfl (.inl (by rw [e9]; rfl)) ?_
    refine Ln rfl rfl rfl rfl (.inl (by rw [e9]; rfl)) ?_
    refine Lp (V_pickF rfl (evb e9) rfl) rfl rfl ?_
    exact hk9 _ _ ⟨_, (FrLe.cons rfl (FrLe.nil _)), h⟩
  rintro fr σ ⟨x40_10, hl, h⟩
  unfold j9_law05_awake at h
  refine Lfr hl ?_
  refine Lp (V_asg rfl rfl) rfl rfl ?_
  refine Lnil ?_
  refine thenN ?_
  refine AW.ret ?_
  exact bR1 Tryz.results10 rfl ⟨_, rfl, h⟩

end Go.Proofs.YtfobjidchipdaaaGreatDoor.G

/- SnapKeeps, the walk. -/
namespace Go.Proofs.YtfobjidchipdaaaGreatDoor.Zt
open Go Go.Proofs.YtfobjidchipdaaaGreatDoor.SL Go.Proofs.YtfobjidchipdaaaGreatDoor.G Go.Proofs.YtfobjidchipdaaaGreatDoor.Pa
set_option maxRecDepth 100000
variable {B : World} {ro σ σ' : AH} {tag tag' : Nat → Nat}
theorem nw_lit {cs : Array Value} {K : Value → AH → Prop} (hs : SL.Sep ro σ) (hK : ∀ s tag' σ', (∀ R, Step R ro tag σ tag' σ') → Held tag' σ' 6 s cs.toList → K (Sl.v s) σ') :
    nw ro σ (.cells cs 5) fun x σ => awp Tryz.prog ro (convert 22 22 (Sl.v ⟨some ⟨x, 0, none⟩, cs.size, cs.size⟩)) K σ := by
  intro b hro hb
  unfold convert
  simp only [bind_def]
  rw [awp_underlying u30, awp_underlying u30]
  simp only [Sl.v]
  rw [awp_underlying u5'']
  show awp Tryz.prog ro (Sem.bind (markStringish ⟨b, 0, none⟩) fun _ => Sem.pure (Value.slice (some ⟨b, 0, none⟩) cs.size cs.size)) K (upd σ b _)
  unfold markStringish
  show ∃ o, rd ro (upd σ b _) b = some o ∧ _
  refine ⟨_, by unfold rd; rw [hro]; exact upd_same _ _ _, ?_⟩
  show (1 : Nat) ≠ 0 ∧ ∃ o, upd σ b _ b = some o ∧ _
  refine ⟨by decide, _, upd_same _ _ _, ?_⟩
  rw [upd_upd]
  refine hK ⟨some ⟨b, 0, none⟩, cs.size, cs.size⟩ (setTag tag b 6) _ (fun _ => Step.fresh hs hro hb) ⟨by simp, .inr ⟨_, _, rfl, by simp [setTag], upd_same _ _ _, fun i v hv => ?_⟩⟩
  rw [add_add, Nat.zero_add]
  show cs[i]? = some v
  rw [← hv]; simp
end Go.Proofs.YtfobjidchipdaaaGreatDoor.Zt
namespace Go.Proofs.YtfobjidchipdaaaGreatDoor.Sn
open Go Go.Proofs.YtfobjidchipdaaaGreatDoor.SL Go.Proofs.YtfobjidchipdaaaGreatDoor.G Go.Proofs.YtfobjidchipdaaaGreatDoor.Pa Go.Proofs.YtfobjidchipdaaaGreatDoor.Wi Go.Proofs.YtfobjidchipdaaaGreatDoor.Dk
set_option linter.unusedSimpArgs false
set_option linter.unusedVariables false
set_option maxRecDepth 100000
variable {B : World} {ro σ σ' : AH} {tag tag' : Nat → Nat}
theorem awake_ok (g : Glob ro) : c_law05_awake B ro σ fun r _ => r = true := by
  refine law05_awake_ok fun hs => ?_
  unfold f_law05_awake
  refine new_ok (tag := fun _ => 0) (r := 10) (fun h => absurd h (by decide)) fun _ _ T M tag1 σ1 st1 h1 => ?_
  rw [if_neg (by simp)]
  have hs1 := (st1 []).sep
  refine Zt.nw_lit (tag := tag1) (cs := #[.int .u8 111, .int .u8 110, .int .u8 101]) hs1 fun s tag2 σ2 st2 hh => ?_
  refine ⟨s, rfl, ?_⟩
  refine save_ok (o := none) (k := 1) (d := [111, 110, 101]) g (h1.keep (st2 []) (by simp)) (by decide) (by decide) rfl (by decide) (.inr hh) (by decide) ?_ ?_
  · rintro e _ (h | ⟨k0, d0, h, _⟩ | h)
    · exact absurd h (by decide)
    · cases h
    · exact absurd h (by decide)
  · intro _ _ ps' tag3 σ3 st3 h3 hF
    unfold j3_law05_awake
    rw [if_neg (by simp)]
    refine load_ok (o := some (1, [111, 110, 101])) g h3 (by decide) (by decide) hF (fun e => by cases e) fun k' d' e s' tag4 σ4 st4 r4 => ?_
    cases e
    rw [if_pos ⟨⟨rfl, rfl⟩, rfl⟩]
    refine Zt.awp_b2s (r4.read st4.sep) ⟨_, rfl, ?_⟩
    unfold j9_law05_awake
    exact decide_eq_true rfl
end Go.Proofs.YtfobjidchipdaaaGreatDoor.Sn

/- SnapBack, the walk. -/
namespace Go.Proofs.YtfobjidchipdaaaGreatDoor.Sn
open Go Go.Proofs.YtfobjidchipdaaaGreatDoor.SL Go.Proofs.YtfobjidchipdaaaGreatDoor.G Go.Proofs.YtfobjidchipdaaaGreatDoor.Pa Go.Proofs.YtfobjidchipdaaaGreatDoor.Wi
set_option linter.unusedSimpArgs false
set_option linter.unusedVariables false
set_option maxRecDepth 100000
variable {B : World} {ro σ σ' : AH} {tag tag' : Nat → Nat}
theorem encCk_len {k : Nat} {d : Str} {sz i : Nat} (hk : k < 4611686018427387904) (hd : d.length ≤ 1048576) (h1 : 1 ≤ sz) (h2 : sz ≤ 32768) (hi : i < cnt d.length sz) : (encCk (ckAt k d sz i)).length ≤ 100000 := by
  obtain ⟨hrt, hft⟩ := ckAt_right (k := k) (d := d) (sz := sz) (i := i) hk hd h1 h2 hi
  have hcl : cnt d.length sz < 4611686018427387904 := hrt.2.1
  have hcr := crc_lt d
  have hpl := partOf_len d sz i
  have hrn : [(k : Int), (cnt d.length sz : Int), (i : Int), (d.length : Int), (crc d : Int)].all rightN = true := by
    have rn : ∀ n : Nat, n < 4611686018427387904 → rightN (n : Int) = true := fun n h => by unfold rightN; simp; omega
    simp [rn k (by omega), rn (cnt d.length sz) hcl, rn i (by omega), rn d.length (by omega), rn (crc d) (by omega)]
  have hnl := nums_len hrn
  have hnl : (nums [(k : Int), (cnt d.length sz : Int), (i : Int), (d.length : Int), (crc d : Int)]).length ≤ 45 := by simpa using hnl
  rw [← enc_eq, List.length_append]
  unfold blob
  rw [List.length_append]
  have := vput_len9 (n := (partOf d sz i).length) (by omega)
  omega
def bools (n : Nat) (K : Nat → Bool) : List Value := (List.range n).map fun i => Value.bool (K i)
theorem bools_set {n i : Nat} {K : Nat → Bool} : (bools n K).set i (.bool true) = bools n (fun j => if j = i then true else K j) := by
  apply List.ext_getElem?
  intro j
  unfold bools
  rw [List.getElem?_set]
  by_cases c : i = j
  · subst c
    simp
    by_cases h : i < n
    · simp [h]
    · simp [h]
  · rw [if_neg c, List.getElem?_map, List.getElem?_map]
    by_cases h : j < n
    · rw [List.getElem?_range h]
      show some (Value.bool (K j)) = some (Value.bool (if j = i then true else K j))
      rw [if_neg (Ne.symm c)]
    · rw [List.getElem?_eq_none (by simpa using h)]; rfl
/-- what the law knows of the chunks made -/
structure Made (ro : AH) (tag : Nat → Nat) (σ : AH) (k : Nat) (d : Str) (sz : Nat) (s : Sl) (ss : List Sl) : Prop where
  row : Row tag σ 14 22 s (ss.map Sl.v)
  len : ss.length = cnt d.length sz
  all : ∀ (i : Nat) (x : Sl), ss[i]? = some x → Row tag σ 6 5 x ((encCk (ckAt k d sz i)).map Zt.vU)
theorem Made.keepS {C : List Nat} {k : Nat} {d : Str} {sz : Nat} {s : Sl} {ss : List Sl} (h : Made ro tag σ k d sz s ss) (st : StepS C ro tag σ tag' σ') (h14 : 14 ∉ C) (h6 : 6 ∉ C) : Made ro tag' σ' k d sz s ss :=
  ⟨h.row.keepS st h14, h.len, fun i x hx => (h.all i x hx).keepS st h6⟩
theorem asAdd_one (a : As) (b : Str) : asAdd a [b] = asAdd1 a b := by
  unfold asAdd
  split
  · rename_i h
    unfold asAdd
    exact Prod.ext rfl h.symm
  · rfl
end Go.Proofs.YtfobjidchipdaaaGreatDoor.Sn
