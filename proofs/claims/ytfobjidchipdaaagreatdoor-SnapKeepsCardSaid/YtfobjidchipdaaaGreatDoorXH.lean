/- SnC, SnD, SnE, SnF, CpA, GL5, SnG -/
import Derived.Test.YtfobjidchipdaaaGreatDoorXG
/- Snapshots, the walk: Load; which files are data; what was begun is cleared. -/
namespace Go.Proofs.YtfobjidchipdaaaGreatDoor.Sn
open Go Go.Proofs.YtfobjidchipdaaaGreatDoor.SL Go.Proofs.YtfobjidchipdaaaGreatDoor.G Go.Proofs.YtfobjidchipdaaaGreatDoor.Pa Go.Proofs.YtfobjidchipdaaaGreatDoor.Wi Go.Proofs.YtfobjidchipdaaaGreatDoor.Dk
set_option linter.unusedSimpArgs false
set_option linter.unusedVariables false
set_option maxRecDepth 100000
variable {B : World} {ro σ σ' : AH} {tag tag' : Nat → Nat}
theorem dname_dfile {k : Nat} (h : k < 10) : dName (dfile k) = true := by
  have : ∀ k, k < 10 → dName (dfile k) = true := by decide
  exact this k h
/-- what there is to be loaded -/
structure SnapFs (k : Nat) (d : Str) (fs : Fs) : Prop where
  k10 : k < 10
  dlen : d.length ≤ 1048576
  mn : fs.lookup manN = some ⟨man k d, (man k d).length⟩
  data : fs.lookup (dfile k) = some ⟨d, d.length⟩
  keys : ∀ p ∈ fs, p.1 = manN ∨ p.1 = dfile k
  len : fs.length ≤ 2
def StFs (o : Option (Nat × Str)) (fs : Fs) : Prop := match o with
  | none => fs = []
  | some (k, d) => SnapFs k d fs
theorem SnapFs.lookups {k : Nat} {d : Str} {ps : Ps} (h : SnapFs k d (pfs ps)) : (∃ b, ps.lookup manN = some (b, ⟨man k d, (man k d).length⟩)) ∧ ∃ b, ps.lookup (dfile k) = some (b, ⟨d, d.length⟩) := by
  have h1 := h.mn
  have h2 := h.data
  rw [pfs_lookup] at h1 h2
  obtain ⟨⟨b, f⟩, e1, e2⟩ := Option.map_eq_some_iff.1 h1
  obtain ⟨⟨c, f'⟩, e3, e4⟩ := Option.map_eq_some_iff.1 h2
  simp only at e2 e4
  subst e2 e4
  exact ⟨⟨b, e1⟩, ⟨c, e3⟩⟩
theorem man35 {k : Nat} {d : Str} (hk : k < 10) (hd : d.length ≤ 1048576) : (man k d).length ≤ 35 := by
  have := man_len (k := k) (d := d) (by omega) (by omega)
  unfold man; rw [frame_len]; omega
theorem SnapFs.blen {k : Nat} {d : Str} {ps : Ps} (h : SnapFs k d (pfs ps)) (hn : (ps.map (·.1)).Nodup) : ∀ p ∈ ps, p.2.2.b.length ≤ 1048576 := by
  intro p hp
  have hl := lookup_mem hn (k := p.1) (x := p.2) hp
  obtain ⟨⟨b, e1⟩, c, e2⟩ := h.lookups
  have hk : (p.1, p.2.2) ∈ pfs ps := List.mem_map.2 ⟨p, hp, rfl⟩
  rcases h.keys _ hk with e | e
  · simp only at e; rw [e] at hl; rw [hl] at e1; rw [Option.some.inj e1]
    have := man35 h.k10 h.dlen; simp only; omega
  · simp only at e; rw [e] at hl; rw [hl] at e2; rw [Option.some.inj e2]; exact h.dlen
theorem StFs.blen {o : Option (Nat × Str)} {ps : Ps} (h : StFs o (pfs ps)) (hn : (ps.map (·.1)).Nodup) : ∀ p ∈ ps, p.2.2.b.length ≤ 1048576 := by
  cases o with
  | none =>
    intro p hp
    have : (p.1, p.2.2) ∈ pfs ps := List.mem_map.2 ⟨p, hp, rfl⟩
    rw [show pfs ps = [] from h] at this; cases this
  | some o => exact SnapFs.blen h hn
theorem load_ok {r T M : Nat} {cap : Int} {ps : Ps} {o : Option (Nat × Str)} {Q : Int → Sl → Bool → Int → AH → Prop} (g : Glob ro) (h : Disk tag σ r T M cap ps) (hr : r < 64) (hr0 : r ∉ [0, 6, 7, 8, 9, 31]) (hS : StFs o (pfs ps))
    (hno : o = none → ∀ tag' σ', StepS [0, 7, 8, 9, 31] ro tag σ tag' σ' → Q 0 ⟨none, 0, 0⟩ false 0 σ')
    (hyes : ∀ k d, o = some (k, d) → ∀ s' tag' σ', StepS [0, 7, 8, 9, 31] ro tag σ tag' σ' → Row tag' σ' 6 5 s' (d.map vU) → Q (k : Nat) s' true 0 σ') : c_snap_Load B ro (some ⟨T, 0, none⟩) (S [115]) σ Q := by
  refine snap_Load_ok fun hs => ?_
  unfold f_snap_Load
  simp only [List.mem_cons, List.not_mem_nil, or_false, not_or] at hr0
  refine rightS_ok ?_
  rw [if_neg (by simp)]
  have hbl := hS.blen h.keys
  have hmod : r % 64 = r := Nat.mod_eq_of_lt hr
  refine readManifest_ok h hr hr0.1 (fun p hp => by have := hbl p hp; omega) ?_ ?_ ?_
  · intro hm tag1 σ1 st1
    refine nw_cells (tag := tag1) 9 st1.sep fun x tag2 σ2 st2 r2 => ?_
    refine r2.stAll (st2 []).sep rfl (by simp [storable]) fun σ3 st3 r3 => ?_
    rw [if_pos (by simp)]
    refine hno ?_ tag2 σ3 ((st1.mono (by decide)).trans (((st2 []).s (by simp)).trans (st3.s (by decide))))
    cases o with
    | none => rfl
    | some x => obtain ⟨⟨b, e⟩, _⟩ := SnapFs.lookups (show SnapFs x.1 x.2 (pfs ps) from hS); rw [e] at hm; cases hm
  · intro b k d n hlk hk hd tag1 σ1 st1
    cases o with
    | none =>
      have : pfs ps = [] := hS
      have hnil : ps = [] := by cases ps with
        | nil => rfl
        | cons p ps => cases this
      rw [hnil] at hlk; cases hlk
    | some x =>
      obtain ⟨k', d'⟩ := x
      have hF : SnapFs k' d' (pfs ps) := hS
      obtain ⟨⟨b1, e1⟩, b2, e2⟩ := hF.lookups
      rw [hlk] at e1
      have ek : (k : Int) = (k' : Int) ∧ (d.length : Int) = d'.length ∧ (crc d : Int) = crc d' := by
        have hm : man k d = man k' d' := by have := Option.some.inj e1; simp at this; exact this.2.1
        have u1 := congrArg unframe hm
        rw [unframe_man hk hd, unframe_man (by have := hF.k10; omega) (by have := hF.dlen; omega)] at u1
        have u2 := congrArg Prod.fst u1
        simp only at u2
        have c1 := crc_lt d
        have c2 := crc_lt d'
        have hF1 := hF.k10
        have hF2 := hF.dlen
        have e1 : ∀ a b c : Nat, nums [(a : Int), (b : Int), (c : Int)] = vput a ++ (vput b ++ (vput c ++ [])) := fun a b c => by unfold nums; simp
        rw [e1, e1] at u2
        have v1 : rnum ⟨_, 0⟩ = rnum ⟨_, 0⟩ := congrArg (fun l => rnum ⟨l, 0⟩) u2
        rw [rnum_put hk, rnum_put (by omega)] at v1
        have w1 := (Prod.mk.inj v1).1
        have w2 := (Rd.mk.inj (Prod.mk.inj v1).2).1
        have v2 : rnum ⟨_, 0⟩ = rnum ⟨_, 0⟩ := congrArg (fun l => rnum ⟨l, 0⟩) w2
        rw [rnum_put hd, rnum_put (by omega)] at v2
        have w3 := (Prod.mk.inj v2).1
        have w4 := (Rd.mk.inj (Prod.mk.inj v2).2).1
        have v3 : rnum ⟨_, 0⟩ = rnum ⟨_, 0⟩ := congrArg (fun l => rnum ⟨l, 0⟩) w4
        rw [rnum_put (by omega), rnum_put (by omega)] at v3
        have w5 := (Prod.mk.inj v3).1
        omega
      rw [ek.1, ek.2.1, ek.2.2]
      have h1 : Disk tag1 σ1 r T M cap ps := by
        obtain ⟨R, hR, st⟩ := st1
        exact h.keep st fun x hx => by have := hR x hx; simp at this; omega
      refine nw_cells (tag := tag1) 9 st1.sep fun x tag2 σ2 st2 r2 => ?_
      refine r2.stAll (st2 []).sep rfl (by simp [storable]) fun σ3 st3 r3 => ?_
      rw [if_neg (by simp)]
      obtain ⟨p, hp, hg⟩ := r3.ptr st3.sep (by simp)
      cases hp
      refine ⟨_, hg 2 _ rfl, ?_⟩
      refine dataFile_ok g hF.k10 ?_
      have h3 := (h1.keep (st2 []) (by simp)).keep st3 (by simp; omega)
      refine read_ok (n := dfile k') h3 hr hr0.1 st3.sep (fun p hp => by have := hbl p hp; omega) ?_ ?_
      · rintro e tag4 σ4 he st4
        exfalso
        rcases he with ⟨h1, _⟩ | ⟨_, h2, _⟩
        · rw [dname_dfile hF.k10] at h1; cases h1
        · rw [e2] at h2; cases h2
      · intro _ b f hb s4 tag4 σ4 st4 r4
        rw [e2] at hb
        obtain ⟨rfl, rfl⟩ : b2 = b ∧ ⟨d', d'.length⟩ = f := by simpa using hb
        have r4 : Row tag4 σ4 6 5 s4 (d'.map vU) := r4
        have rx := r3.keep st4 (by decide)
        have hs4 := st4.sep
        obtain ⟨tX, hX⟩ := rx.tagOf
        refine lent_block x ?_
        have hsL : SL.Sep (join ro (SL.one σ4 x)) (SL.del σ4 x) := hs4.lent
        have cX : ∀ τ i v, [Value.int .i64 (d'.length : Nat), .int .i64 (crc d' : Nat), .int .i64 (k' : Nat)][i]? = some v → acell (join ro (SL.one σ4 x)) τ ((⟨x, 0, none⟩ : Addr).add i) = some v := fun τ i v hv => by
          have := rx.lend hs4 (τ := τ) (i := i) (v := v) hv
          rwa [Nat.mul_one] at this
        rw [if_neg (by simp)]
        refine ⟨(d'.length : Nat), (crc d' : Nat), cellsAt_of 0 fun i v hv => ?_, ?_⟩
        · rw [Nat.zero_add]
          refine cX _ i v ?_
          match i, hv with
          | 0, hv => exact hv
          | 1, hv => exact hv
        · have hd' := hF.dlen
          refine digestOf_ok (tag := tag4) (l := d') (fun tag' σ' st => ((r4.del tX (by decide)).keep st (by simp)).read st.sep) (by omega) fun tag5 σ5 st5 => ?_
          refine ne87 ⟨_, rfl, ?_⟩
          intro hdis
          have stB := st5.back hs4 hdis hX
          have r6 := rx.keep stB (by decide)
          unfold j9_snap_Load
          rw [if_neg (by simp)]
          obtain ⟨p, hp, hg⟩ := r6.ptr stB.sep (by simp)
          cases hp
          refine ⟨_, hg 2 _ rfl, ?_⟩
          exact hyes k' d' rfl s4 _ _ ((st1.mono (by decide)).trans (((st2 []).s (by simp)).trans ((st3.s (by decide)).trans ((st4.s (by decide)).trans (stB.s (by decide)))))) (r4.keep stB (by decide))
  · cases o with
    | none =>
      have : pfs ps = [] := hS
      have hnil : ps = [] := by cases ps with
        | nil => rfl
        | cons p ps => cases this
      rw [hnil]; exact .inl rfl
    | some x =>
      have hF : SnapFs x.1 x.2 (pfs ps) := hS
      obtain ⟨⟨b1, e1⟩, b2, e2⟩ := hF.lookups
      exact .inr ⟨b1, x.1, x.2, _, e1, by have := hF.k10; omega, by have := hF.dlen; omega⟩
theorem isData_yes {k : Nat} {Q : Bool → AH → Prop} (g : Glob ro) (hk : k < 10) (hQ : Q true σ) : c_snap_isData B ro (S [115]) (S (dfile k)) σ Q := by
  refine snap_isData_ok fun _ => ?_
  unfold f_snap_isData
  refine ⟨by decide, ?_⟩
  rw [show (⟨#[46, 115]⟩ : ByteArray) = S [46, 115] from rfl, S_append]
  refine Zt.cutPrefix_ok ?_
  have e : Zt.cutPre (dfile k) ([115] ++ [46, 115]) = ([UInt8.ofNat (48 + k)], true) := by
    unfold Zt.cutPre
    rw [if_pos (by rfl)]; rfl
  rw [e]
  rw [if_neg (by simp)]
  have ha : ∀ k, k < 10 → Lib.atoi [UInt8.ofNat (48 + k)] = some (k : Int) := by decide
  refine atoi_ok (by simp) (ha k hk) ?_
  refine nil_eq ⟨true, rfl, ?_⟩
  rw [if_pos ⟨⟨rfl, by omega⟩, by omega⟩]
  refine itoa_ok g (by omega) ?_
  unfold j6_snap_isData
  rw [dec1 hk]
  rw [decide_eq_true rfl]
  exact hQ
theorem isData_man {Q : Bool → AH → Prop} (hQ : Q false σ) : c_snap_isData B ro (S [115]) (S manN) σ Q := by
  refine snap_isData_ok fun _ => ?_
  unfold f_snap_isData
  refine ⟨by decide, ?_⟩
  rw [show (⟨#[46, 115]⟩ : ByteArray) = S [46, 115] from rfl, S_append]
  refine Zt.cutPrefix_ok ?_
  rw [show Zt.cutPre manN ([115] ++ [46, 115]) = (manN, false) from by decide]
  rw [if_pos (by simp)]
  exact hQ
theorem clear_ok {r T M x13 x14 x4 : Nat} {cap : Int} {ps : Ps} {a c : Str} {Q : AH → Prop} (h : Disk tag σ r T M cap ps) (hr : r < 64) (hr0 : r ∉ [0, 3, 40, 41, 42, 43]) (ha : dName a = true) (hc : dName c = true)
    (h1 : Row tag σ 40 9 ⟨some ⟨x13, 0, none⟩, 1, 1⟩ [Pa.vS a]) (h2 : Row tag σ 41 9 ⟨some ⟨x14, 0, none⟩, 1, 1⟩ [Pa.vS c]) (h3 : Row tag σ 42 26 ⟨some ⟨x4, 0, none⟩, 1, 1⟩ [.pointer (some ⟨T, 0, none⟩)])
    (hQ : ∀ tag' σ', StepS [0, r] ro tag σ tag' σ' → Disk tag' σ' r T M cap (adel (adel ps a) c) → Q σ') : c_snap_Save_c1 B ro ⟨x13, 0, none⟩ ⟨x14, 0, none⟩ ⟨x4, 0, none⟩ σ Q := by
  refine snap_Save_c1_ok fun hs => ?_
  unfold f_snap_Save_c1
  simp only [List.mem_cons, List.not_mem_nil, or_false, not_or] at hr0
  refine ⟨S a, Row.cell1 h1 hs, S c, Row.cell1 h2 hs, ?_⟩
  refine nw_cells (tag := tag) 43 hs fun x tag1 σ1 st1 r1 => ?_
  obtain ⟨p, hp, hg⟩ := r1.ptr (st1 []).sep (by simp)
  cases hp
  refine lfpD.intro ?_
  unfold l4_snap_Save_c1
  rw [if_pos (by simp)]
  refine ⟨_, rfl, by omega, by simp, S a, hg 0 _ rfl, _, Row.cell1 (h3.keep (st1 []) (by simp)) (st1 []).sep, ?_⟩
  refine nw_cells (tag := tag1) 3 (st1 []).sep fun y tag2 σ2 st2 r2 => ?_
  refine remove_ok (q := 3) (n := a) ((h.keep (st1 []) (by simp)).keep (st2 []) (by simp)) hr hr0.1 r2 (by decide) ha fun e tag3 σ3 st3 hd3 => ?_
  have sA : StepS [0, r] ro tag1 σ1 tag3 σ3 := ((st2 []).s (by simp)).trans st3
  have r3 := r1.keepS sA (by simp; omega)
  obtain ⟨p, hp, hg⟩ := r3.ptr st3.sep (by simp)
  cases hp
  refine lfpD.intro ?_
  rw [show IntKind.i64.wrap (0 + 1) = 1 from by decide, if_pos (by simp)]
  refine ⟨_, rfl, by omega, by simp, S c, hg 1 _ rfl, _, Row.cell1 ((h3.keep (st1 []) (by simp)).keepS sA (by simp; omega)) st3.sep, ?_⟩
  refine nw_cells (tag := tag3) 3 st3.sep fun z tag4 σ4 st4 r4 => ?_
  refine remove_ok (q := 3) (n := c) (hd3.keep (st4 []) (by simp)) hr hr0.1 r4 (by decide) hc fun e tag5 σ5 st5 hd5 => ?_
  refine lfpD.intro ?_
  rw [show IntKind.i64.wrap (1 + 1) = 2 from by decide, if_neg (by simp)]
  exact hQ tag5 σ5 (((st1 []).s (by simp)).trans (sA.trans (((st4 []).s (by simp)).trans st5))) hd5
end Go.Proofs.YtfobjidchipdaaaGreatDoor.Sn

/- Snapshots: files put, made safe, renamed, cleared: what is there behind it (pure). -/
namespace Go.Proofs.YtfobjidchipdaaaGreatDoor.Sn
open Go Go.Proofs.YtfobjidchipdaaaGreatDoor.SL Go.Proofs.YtfobjidchipdaaaGreatDoor.G Go.Proofs.YtfobjidchipdaaaGreatDoor.Pa Go.Proofs.YtfobjidchipdaaaGreatDoor.Wi Go.Proofs.YtfobjidchipdaaaGreatDoor.Dk
set_option linter.unusedSimpArgs false
set_option linter.unusedVariables false
theorem sub_len {α : Type} [DecidableEq α] : ∀ {l L : List α}, l.Nodup → (∀ x ∈ l, x ∈ L) → l.length ≤ L.length := by
  intro l
  induction l with
  | nil => intro L _ _; simp
  | cons x l ih =>
    intro L hn hs
    rw [List.nodup_cons] at hn
    have hx := hs x (by simp)
    have := ih (L := L.erase x) hn.2 fun y hy => (List.mem_erase_of_ne (fun e => hn.1 (by rw [← e]; exact hy))).2 (hs y (by simp [hy]))
    rw [List.length_erase_of_mem hx] at this
    have := List.length_pos_of_mem hx
    simp; omega
theorem adel_app {β : Type} {ps : List (Str × β)} {k : Str} {v : β} (h : ps.lookup k = none) : adel (ps ++ [(k, v)]) k = ps := by
  induction ps with
  | nil => simp [adel]
  | cons p ps ih =>
    obtain ⟨k', v'⟩ := p
    rw [List.lookup_cons] at h
    by_cases e : k = k'
    · subst e; simp at h
    · rw [show (k == k') = false by simpa using e] at h
      rw [List.cons_append]
      unfold adel
      rw [if_neg e, ih h]
theorem fapp_new {fs : Fs} {n d : Str} (h : fs.lookup n = none) : fapp fs n d = fs ++ [(n, ⟨d, 0⟩)] := by
  unfold fapp; rw [h]; exact aput_new h
theorem look_app {β : Type} {ps : List (Str × β)} {k : Str} {v : β} (h : ps.lookup k = none) (n : Str) : (ps ++ [(k, v)]).lookup n = if n = k then some v else ps.lookup n := by
  rw [← aput_new h, lookup_aput]
theorem name_ne {k : Nat} (h : k < 10) : dfile k ≠ manN ∧ dfile k ≠ tmpN := by
  have : ∀ k, k < 10 → dfile k ≠ manN ∧ dfile k ≠ tmpN := by decide
  exact this k h
theorem dfile_inj {k k' : Nat} (h : k < 10) (h' : k' < 10) (e : dfile k = dfile k') : k = k' := by
  have : ∀ k, k < 10 → ∀ k', k' < 10 → dfile k = dfile k' → k = k' := by decide
  exact this k h k' h' e
theorem man_ne_tmp : manN ≠ tmpN := by decide
/-- what a state lets a new snapshot find -/
theorem StFs.fresh {o : Option (Nat × Str)} {fs : Fs} {k : Nat} (h : StFs o fs) (hk : k < 10) (ho : ∀ k0 d0, o = some (k0, d0) → k0 < k) : fs.lookup (dfile k) = none ∧ fs.lookup tmpN = none := by
  cases o with
  | none => rw [show fs = [] from h]; exact ⟨rfl, rfl⟩
  | some x =>
    obtain ⟨k0, d0⟩ := x
    have hF : SnapFs k0 d0 fs := h
    have hlt := ho k0 d0 rfl
    constructor
    · refine lookup_key.2 fun hm => ?_
      obtain ⟨p, hp, e⟩ := List.mem_map.1 hm
      rcases hF.keys p hp with h | h
      · rw [h] at e; exact (name_ne hk).1 e.symm
      · rw [h] at e; have := dfile_inj hF.k10 hk e; omega
    · refine lookup_key.2 fun hm => ?_
      obtain ⟨p, hp, e⟩ := List.mem_map.1 hm
      rcases hF.keys p hp with h | h
      · rw [h] at e; exact man_ne_tmp e
      · rw [h] at e; exact (name_ne hF.k10).2 e
theorem used_app (fs : Fs) (n : Str) (f : Fl) : used (fs ++ [(n, f)]) = used fs + f.b.length := by
  unfold used; rw [List.map_append, List.sum_append]; simp
theorem used_len {fs : Fs} {N : Nat} (h : ∀ p ∈ fs, p.2.b.length ≤ N) : used fs ≤ fs.length * N := by
  induction fs with
  | nil => simp [used]
  | cons p fs ih =>
    have h1 := h p (by simp)
    have h2 := ih fun q hq => h q (by simp [hq])
    unfold used at *
    rw [List.map_cons, List.sum_cons, List.length_cons, Nat.add_mul]; omega
theorem StFs.used {o : Option (Nat × Str)} {ps : Ps} (h : StFs o (pfs ps)) (hn : (ps.map (·.1)).Nodup) : used (pfs ps) ≤ 2097152 ∧ ps.length ≤ 2 := by
  have hb := h.blen hn
  have hl : ps.length ≤ 2 := by
    cases o with
    | none => have : (pfs ps).length = 0 := by rw [show pfs ps = [] from h]; rfl
              unfold pfs at this; simp at this; simp [this]
    | some x => have := SnapFs.len (show SnapFs x.1 x.2 (pfs ps) from h); unfold pfs at this; simpa using this
  have := used_len (fs := pfs ps) (N := 1048576) fun p hp => by
    obtain ⟨q, hq, rfl⟩ := List.mem_map.1 hp
    exact hb q hq
  have h3 : (pfs ps).length = ps.length := by unfold pfs; simp
  rw [h3] at this
  have : ps.length * 1048576 ≤ 2 * 1048576 := Nat.mul_le_mul_right _ hl
  exact ⟨by omega, hl⟩
/-- behind the renaming: the manifest, the data, and nothing but files of snapshots -/
structure Mid (k : Nat) (d : Str) (o : Option (Nat × Str)) (fs : Fs) : Prop where
  mn : fs.lookup manN = some ⟨man k d, (man k d).length⟩
  data : fs.lookup (dfile k) = some ⟨d, d.length⟩
  keys : ∀ p ∈ fs, p.1 = manN ∨ p.1 = dfile k ∨ ∃ k0 d0, o = some (k0, d0) ∧ p.1 = dfile k0
theorem mid_of {o : Option (Nat × Str)} {fs fs2 fs3 : Fs} {k : Nat} {d : Str} (h : StFs o fs) (hn : (fs.map (·.1)).Nodup) (hk : k < 10) (ho : ∀ k0 d0, o = some (k0, d0) → k0 < k) (h2 : fs2 = fs ++ [(dfile k, ⟨d, 0⟩)] ++ [(tmpN, ⟨man k d, 0⟩)]) (h3 : fs3 = fsync fs2 [dfile k, tmpN]) :
    fs3.lookup tmpN = some ⟨man k d, (man k d).length⟩ ∧ Mid k d o (aput (adel fs3 tmpN) manN ⟨man k d, (man k d).length⟩) := by
  obtain ⟨f1, f2⟩ := h.fresh hk ho
  have hne := name_ne hk
  have g1 : (fs ++ [(dfile k, (⟨d, 0⟩ : Fl))]).lookup tmpN = none := by rw [look_app f1, if_neg (fun e => hne.2 e.symm)]; exact f2
  have l2 : ∀ n, fs2.lookup n = if n = tmpN then some ⟨man k d, 0⟩ else if n = dfile k then some ⟨d, 0⟩ else fs.lookup n := fun n => by rw [h2, look_app g1, look_app f1]
  have l3 : ∀ n, fs3.lookup n = if n = tmpN then some ⟨man k d, (man k d).length⟩ else if n = dfile k then some ⟨d, d.length⟩ else fs.lookup n := fun n => by
    have e1 : sync1 fs2 (dfile k) = aput fs2 (dfile k) ⟨d, d.length⟩ := by
      unfold sync1; rw [l2, if_neg hne.2, if_pos rfl]
    have e2 : sync1 (aput fs2 (dfile k) ⟨d, d.length⟩) tmpN = aput (aput fs2 (dfile k) ⟨d, d.length⟩) tmpN ⟨man k d, (man k d).length⟩ := by
      unfold sync1; rw [lookup_aput, if_neg (fun e => hne.2 e.symm), l2, if_pos rfl]
    rw [h3, show fsync fs2 [dfile k, tmpN] = sync1 (sync1 fs2 (dfile k)) tmpN from rfl, e1, e2, lookup_aput, lookup_aput, l2]
    by_cases a : n = tmpN
    · simp [a]
    · simp only [if_neg a]
      by_cases b : n = dfile k
      · simp only [if_pos b]
      · simp only [if_neg b]
  have k3 : fs3.map (·.1) = fs.map (·.1) ++ [dfile k, tmpN] := by
    have e1 : sync1 fs2 (dfile k) = aput fs2 (dfile k) ⟨d, d.length⟩ := by
      unfold sync1; rw [l2, if_neg hne.2, if_pos rfl]
    have e2 : sync1 (aput fs2 (dfile k) ⟨d, d.length⟩) tmpN = aput (aput fs2 (dfile k) ⟨d, d.length⟩) tmpN ⟨man k d, (man k d).length⟩ := by
      unfold sync1; rw [lookup_aput, if_neg (fun e => hne.2 e.symm), l2, if_pos rfl]
    rw [h3, show fsync fs2 [dfile k, tmpN] = sync1 (sync1 fs2 (dfile k)) tmpN from rfl, e1, e2]
    rw [aput_keys (x := ⟨man k d, 0⟩) (by rw [lookup_aput, if_neg (fun e => hne.2 e.symm), l2, if_pos rfl]), aput_keys (x := ⟨d, 0⟩) (by rw [l2, if_neg hne.2, if_pos rfl]), h2]
    simp
  have n3 : (fs3.map (·.1)).Nodup := by
    rw [k3, List.nodup_append]
    refine ⟨hn, by simp; exact hne.2, fun x hx y hy e => ?_⟩
    simp at hy
    rcases hy with rfl | rfl
    · exact lookup_key.1 f1 (by rw [← e]; exact hx)
    · exact lookup_key.1 f2 (by rw [← e]; exact hx)
  refine ⟨by rw [l3, if_pos rfl], ?_, ?_, fun p hp => ?_⟩
  · rw [lookup_aput, if_pos rfl]
  · rw [lookup_aput, if_neg hne.1, lookup_adel n3, if_neg hne.2, l3, if_neg hne.2, if_pos rfl]
  · rcases mem_aput (adel_nodup n3) hp with rfl | ⟨hp, _⟩
    · exact .inl rfl
    · obtain ⟨hp, hnt⟩ := mem_adel n3 hp
      have hm : p.1 ∈ fs3.map (·.1) := List.mem_map.2 ⟨p, hp, rfl⟩
      rw [k3] at hm
      rcases List.mem_append.1 hm with hm | hm
      · obtain ⟨q, hq, e⟩ := List.mem_map.1 hm
        cases o with
        | none => rw [show fs = [] from h] at hq; cases hq
        | some x =>
          obtain ⟨k0, d0⟩ := x
          rcases SnapFs.keys (show SnapFs k0 d0 fs from h) q hq with h | h
          · exact .inl (by rw [← e, h])
          · exact .inr (.inr ⟨k0, d0, rfl, by rw [← e, h]⟩)
      · simp at hm
        rcases hm with hm | hm
        · exact .inr (.inl hm)
        · exact absurd hm hnt
end Go.Proofs.YtfobjidchipdaaaGreatDoor.Sn

/- Snapshots, the walk: Save. -/
namespace Go.Proofs.YtfobjidchipdaaaGreatDoor.Sn
open Go Go.Proofs.YtfobjidchipdaaaGreatDoor.SL Go.Proofs.YtfobjidchipdaaaGreatDoor.G Go.Proofs.YtfobjidchipdaaaGreatDoor.Pa Go.Proofs.YtfobjidchipdaaaGreatDoor.Wi Go.Proofs.YtfobjidchipdaaaGreatDoor.Dk
set_option linter.unusedSimpArgs false
set_option linter.unusedVariables false
set_option maxRecDepth 100000
variable {B : World} {ro σ σ' : AH} {tag tag' : Nat → Nat}
abbrev SC : List Nat := [0, 1, 2, 7, 8, 9, 10, 31, 40, 41, 42, 43, 45]
theorem DiskAt.keepS {td tf : TypeId} {C : List Nat} {r T M : Nat} {cap : Int} {ps : Ps} (h : DiskAt td tf tag σ r T M cap ps) (k : StepS C ro tag σ tag' σ') (hr : r % 64 ∉ C) : DiskAt td tf tag' σ' r T M cap ps := by
  obtain ⟨R, h1, h2⟩ := k
  exact h.keep h2 fun x hx e => hr (by rw [← e]; exact h1 x hx)
theorem RowC.outR {L : List Nat} {r : Nat} {e : TypeId} {s : Sl} {l : List Value} (h : RowC tag σ r e s l) (hr : r ∉ L) : RowC tag (SL.outR tag L σ) r e s l := by
  obtain ⟨c, h, x⟩ := h; exact ⟨c, h.outR hr, x⟩
/-- the last part: other snapshots' files go -/
theorem sweep_ok {T M x4 x13 : Nat} {cap : Int} {ps : Ps} {o : Option (Nat × Str)} {k : Nat} {d : Str} {Q : Int → AH → Prop} (g : Glob ro) (h : Disk tag σ 10 T M cap ps) (hs : SL.Sep ro σ) (hk : k < 10) (hd : d.length ≤ 1048576) (hM : Mid k d o (pfs ps)) (ho : ∀ k0 d0, o = some (k0, d0) → k0 < k)
    (h4 : Row tag σ 42 26 ⟨some ⟨x4, 0, none⟩, 1, 1⟩ [.pointer (some ⟨T, 0, none⟩)]) (h13 : Row tag σ 40 9 ⟨some ⟨x13, 0, none⟩, 1, 1⟩ [Pa.vS (dfile k)])
    (hQ : ∀ ps' tag' σ', StepS [0, 10] ro tag σ tag' σ' → Disk tag' σ' 10 T M cap ps' → SnapFs k d (pfs ps') → Q 0 σ') :
    c_disk_table_Files B ro (some M) σ fun x σ => lfpD (l24_snap_Save B ro (S [115]) x4 x13 x Q) 0 σ := by
  have hkl : ∀ p ∈ ps, p.1.length ≤ 5 := fun p hp => by
    have hm : (p.1, p.2.2) ∈ pfs ps := List.mem_map.2 ⟨p, hp, rfl⟩
    rcases hM.keys _ hm with e | e | ⟨k0, d0, _, e⟩ <;> simp only at e <;> rw [e] <;> first | decide | exact (by decide : 4 ≤ 5)
  have hkn : ps.length ≤ 4398046511104 := by
    have hL : ∃ L : List Str, L.length ≤ 3 ∧ ∀ x ∈ ps.map (·.1), x ∈ L := by
      refine ⟨manN :: dfile k :: o.toList.map (fun x => dfile x.1), by cases o <;> simp, fun x hx => ?_⟩
      obtain ⟨p, hp, rfl⟩ := List.mem_map.1 hx
      have hm : (p.1, p.2.2) ∈ pfs ps := List.mem_map.2 ⟨p, hp, rfl⟩
      rcases hM.keys _ hm with e | e | ⟨k0, d0, e0, e⟩ <;> simp only at e <;> rw [e]
      · simp
      · simp
      · rw [e0]; simp
    obtain ⟨L, l1, l2⟩ := hL
    have := sub_len h.keys l2
    rw [List.length_map] at this
    omega
  refine files_ok (q := 43) h.map h.keys (fun p hp => by have := hkl p hp; omega) hkn fun ls tag1 σ1 ks st1 hp hso r1 => ?_
  have hln : ls.len = ks.length := by rw [r1.len, List.length_map]
  have hkn' : ks.length ≤ 4398046511104 := by rw [hp.length_eq, List.length_map]; exact hkn
  have hne := name_ne hk
  suffices ∀ (m j : Nat) (ps' : Ps) (tag2 : Nat → Nat) (σ2 : AH), j + m = ks.length → Disk tag2 σ2 10 T M cap ps' → StepS [0, 10] ro tag1 σ1 tag2 σ2 → (pfs ps').lookup manN = some ⟨man k d, (man k d).length⟩ → (pfs ps').lookup (dfile k) = some ⟨d, d.length⟩ →
      (∀ p ∈ ps', p.1 = manN ∨ p.1 = dfile k ∨ p.1 ∈ ks.drop j) → lfpD (l24_snap_Save B ro (S [115]) x4 x13 ls Q) (j : Int) σ2 from
    this _ 0 ps tag1 σ1 (Nat.zero_add _) (h.keep (st1 []) (by simp)) (StepS.refl (st1 []).sep) hM.mn hM.data fun p hp' => .inr (.inr (hp.mem_iff.2 (List.mem_map.2 ⟨p, hp', rfl⟩)))
  intro m
  induction m with
  | zero =>
    intro j ps' tag2 σ2 hj hd2 st2 e1 e2 hkeys
    refine lfpD.intro ?_
    unfold l24_snap_Save
    rw [if_neg (by omega)]
    unfold j19_snap_Save
    refine hQ ps' tag2 σ2 (((st1 []).s (by simp)).trans st2) hd2 ⟨hk, hd, e1, e2, fun p hp' => ?_, ?_⟩
    · obtain ⟨q, hq, rfl⟩ := List.mem_map.1 hp'
      rcases hkeys q hq with e | e | e
      · exact .inl e
      · exact .inr e
      · rw [List.drop_of_length_le (by omega)] at e; cases e
    · have := sub_len (L := [manN, dfile k]) hd2.keys fun x hx => by
        obtain ⟨q, hq, rfl⟩ := List.mem_map.1 hx
        rcases hkeys q hq with e | e | e
        · simp [e]
        · simp [e]
        · rw [List.drop_of_length_le (by omega)] at e; cases e
      rw [List.length_map] at this
      unfold pfs; rw [List.length_map]; exact this
  | succ m ih =>
    intro j ps' tag2 σ2 hj hd2 st2 e1 e2 hkeys
    have hjl : j < ks.length := by omega
    have hs2 := st2.sep
    have edrop : ks.drop j = ks[j] :: ks.drop (j + 1) := List.drop_eq_getElem_cons hjl
    obtain ⟨p, hp', _, hg⟩ := Row.sget (r1.keepS st2 (by decide)) hs2 hjl
    have hgj := hg j hjl
    have hin : ks[j] ∈ ps.map (·.1) := hp.mem_iff.1 (List.getElem_mem hjl)
    generalize ks[j] = n at hgj hin edrop
    have hn : n = manN ∨ n = dfile k ∨ ∃ k0, k0 < k ∧ n = dfile k0 := by
      obtain ⟨q, hq, rfl⟩ := List.mem_map.1 hin
      rcases hM.keys _ (List.mem_map.2 ⟨q, hq, rfl⟩) with e | e | ⟨k0, d0, e0, e⟩
      · exact .inl e
      · exact .inr (.inl e)
      · exact .inr (.inr ⟨k0, ho k0 d0 e0, e⟩)
    have h13' := (h13.keep (st1 []) (by simp)).keepS st2 (by decide)
    have h4' := (h4.keep (st1 []) (by simp)).keepS st2 (by decide)
    refine lfpD.intro ?_
    unfold l24_snap_Save
    rw [if_pos (by omega)]
    refine ⟨p, hp', by omega, by omega, S n, by rw [Int.toNat_natCast]; exact hgj, S (dfile k), Row.cell1 h13' hs2, ?_⟩
    have stay : n = manN ∨ n = dfile k → ∀ tag3 σ3, StepS [0] ro tag2 σ2 tag3 σ3 → j26_snap_Save B ro (S [115]) x4 x13 ls (j : Int) Q (lfpD (l24_snap_Save B ro (S [115]) x4 x13 ls Q)) σ3 := fun hh tag3 σ3 st3 => by
      unfold j26_snap_Save
      rw [Pa.inc j (by omega)]
      refine ih (j + 1) ps' tag3 σ3 (by omega) (DiskAt.keepS hd2 st3 (by decide)) (st2.trans (st3.mono (by decide))) e1 e2 fun q hq => ?_
      rcases hkeys q hq with e | e | e
      · exact .inl e
      · exact .inr (.inl e)
      · rw [edrop] at e
        rcases List.mem_cons.1 e with e | e
        · rcases hh with h | h
          · exact .inl (e.trans h)
          · exact .inr (.inl (e.trans h))
        · exact .inr (.inr e)
    by_cases c : S n = S (dfile k)
    · rw [if_neg (by simpa using c)]
      unfold j30_snap_Save
      rw [if_neg (by simp)]
      exact stay (.inr (S_inj.1 c)) tag2 σ2 (StepS.refl hs2)
    · rw [if_pos c]
      rcases hn with rfl | rfl | ⟨k0, hlt, rfl⟩
      · refine isData_man ?_
        unfold j30_snap_Save
        rw [if_neg (by simp)]
        exact stay (.inl rfl) tag2 σ2 (StepS.refl hs2)
      · exact absurd rfl c
      · refine isData_yes g (by omega) ?_
        unfold j30_snap_Save
        rw [if_pos rfl]
        refine ⟨_, Row.cell1 h4' hs2, ?_⟩
        refine nw_cells (tag := tag2) 3 hs2 fun y tag3 σ3 st3 r3 => ?_
        refine remove_ok (q := 3) (n := dfile k0) (hd2.keep (st3 []) (by simp)) (by decide) (by decide) r3 (by decide) (dname_dfile (by omega)) fun e tag4 σ4 st4 hd4 => ?_
        unfold j26_snap_Save
        rw [Pa.inc j (by omega)]
        have hnk : (pfs ps').map (·.1) = ps'.map (·.1) := pfs_keys ps'
        have hnd : ((pfs ps').map (·.1)).Nodup := by rw [hnk]; exact hd2.keys
        have n1 : manN ≠ dfile k0 := fun e => (name_ne (by omega)).1 e.symm
        have n2 : dfile k ≠ dfile k0 := fun e => by have := dfile_inj hk (by omega) e; omega
        refine ih (j + 1) _ tag4 σ4 (by omega) hd4 (st2.trans (((st3 []).s (by simp)).trans st4)) ?_ ?_ fun q hq => ?_
        · rw [pfs_del, lookup_adel hnd, if_neg n1]; exact e1
        · rw [pfs_del, lookup_adel hnd, if_neg n2]; exact e2
        · obtain ⟨hq, hqn⟩ := mem_adel hd2.keys hq
          rcases hkeys q hq with e | e | e
          · exact .inl e
          · exact .inr (.inl e)
          · rw [edrop] at e
            rcases List.mem_cons.1 e with e | e
            · exact absurd e hqn
            · exact .inr (.inr e)
end Go.Proofs.YtfobjidchipdaaaGreatDoor.Sn

/- Snapshots, the walk: Save, whole. -/
namespace Go.Proofs.YtfobjidchipdaaaGreatDoor.Sn
open Go Go.Proofs.YtfobjidchipdaaaGreatDoor.SL Go.Proofs.YtfobjidchipdaaaGreatDoor.G Go.Proofs.YtfobjidchipdaaaGreatDoor.Pa Go.Proofs.YtfobjidchipdaaaGreatDoor.Wi Go.Proofs.YtfobjidchipdaaaGreatDoor.Dk
set_option linter.unusedSimpArgs false
set_option linter.unusedVariables false
set_option maxRecDepth 100000
variable {B : World} {ro σ σ' : AH} {tag tag' : Nat → Nat}
theorem pfs_none {ps : Ps} {n : Str} (h : (pfs ps).lookup n = none) : ps.lookup n = none := by
  rw [pfs_lookup] at h; exact Option.map_eq_none_iff.1 h
/-- safe, renamed, swept -/
theorem finish_ok {T M x4 x13 x14 : Nat} {cap : Int} {ps3 : Ps} {fs : Fs} {o : Option (Nat × Str)} {k : Nat} {d : Str} {Q : Int → AH → Prop} (g : Glob ro) (h : Disk tag σ 10 T M cap ps3) (hs : SL.Sep ro σ) (hk : k < 10) (hd : d.length ≤ 1048576) (hS : StFs o fs) (hn : (fs.map (·.1)).Nodup) (ho : ∀ k0 d0, o = some (k0, d0) → k0 < k)
    (h3 : pfs ps3 = fs ++ [(dfile k, ⟨d, 0⟩)] ++ [(tmpN, ⟨man k d, 0⟩)])
    (h4 : Row tag σ 42 26 ⟨some ⟨x4, 0, none⟩, 1, 1⟩ [.pointer (some ⟨T, 0, none⟩)]) (h13 : Row tag σ 40 9 ⟨some ⟨x13, 0, none⟩, 1, 1⟩ [Pa.vS (dfile k)]) (h14 : Row tag σ 41 9 ⟨some ⟨x14, 0, none⟩, 1, 1⟩ [Pa.vS tmpN])
    (hQ : ∀ ps' tag' σ', StepS [0, 10] ro tag σ tag' σ' → Disk tag' σ' 10 T M cap ps' → SnapFs k d (pfs ps') → Q 0 σ') : j10_snap_Save B ro (S [115]) x4 x13 x14 Q σ := by
  unfold j10_snap_Save
  have hne := name_ne hk
  obtain ⟨f1, f2⟩ := hS.fresh hk ho
  have g1 : (fs ++ [(dfile k, (⟨d, 0⟩ : Fl))]).lookup tmpN = none := by rw [look_app f1, if_neg (fun e => hne.2 e.symm)]; exact f2
  refine ⟨_, Row.cell1 h4 hs, S (dfile k), Row.cell1 h13 hs, S tmpN, Row.cell1 h14 hs, ?_⟩
  refine nw_cells (tag := tag) 43 hs fun x tag1 σ1 st1 r1 => ?_
  have hl3 : ∀ n ∈ [dfile k, tmpN], ps3.lookup n ≠ none := by
    intro n hn e
    have : (pfs ps3).lookup n = none := by rw [pfs_lookup, e]; rfl
    rw [h3, look_app g1, look_app f1] at this
    simp at hn
    rcases hn with rfl | rfl
    · rw [if_neg hne.2, if_pos rfl] at this; cases this
    · rw [if_pos rfl] at this; cases this
  have hdn : [dfile k, tmpN].all dName = true := by
    simp only [List.all_cons, dname_dfile hk, List.all_nil, Bool.and_true, Bool.true_and]; decide
  refine sync_ok (q := 43) (ns := [dfile k, tmpN]) (h.keep (st1 []) (by simp)) (by decide) (by decide) r1 (by decide) (by simp) ?_ ?_
  · rintro (hb | ⟨n, hn, e⟩)
    · rw [hdn] at hb; cases hb
    · exact absurd e (hl3 n hn)
  · intro _ _ ps4 tag2 σ2 st2 hd4 e4
    have hs2 := st2.sep
    have sA : StepS [0, 10] ro tag σ tag2 σ2 := ((st1 []).s (by simp)).trans st2
    have h4' := h4.keepS sA (by decide)
    have h13' := h13.keepS sA (by decide)
    have h14' := h14.keepS sA (by decide)
    obtain ⟨m1, m2⟩ := mid_of (fs2 := pfs ps3) (fs3 := pfs ps4) hS hn hk ho h3 e4
    refine ⟨_, Row.cell1 h4' hs2, S tmpN, Row.cell1 h14' hs2, by decide, ?_⟩
    rw [show (⟨#[46, 109, 97, 110]⟩ : ByteArray) = S [46, 109, 97, 110] from rfl, S_append]
    refine rename_ok (a := tmpN) (c := manN) hd4 (by decide) (by decide) (by decide) (by decide) ?_ ?_
    · intro e
      rw [pfs_lookup, e] at m1; cases m1
    · intro b f hb σ3 st3 hd5
      have hs3 := st3.sep
      have hf : f = ⟨man k d, (man k d).length⟩ := by rw [pfs_lookup, hb] at m1; exact Option.some.inj m1
      subst hf
      refine ⟨_, Row.cell1 (h4'.keepS st3 (by decide)) hs3, _, rfl, _, (hd5.ptrs hs3).1, ?_⟩
      refine sweep_ok (o := o) g hd5 hs3 hk hd (by rw [pfs_put, pfs_del]; exact m2) ho (h4'.keepS st3 (by decide)) (h13'.keepS st3 (by decide)) fun ps' tag4 σ4 st4 hd6 hF => ?_
      exact hQ ps' tag4 σ4 (sA.trans ((st3.mono (by decide)).trans st4)) hd6 hF
theorem save_ok {T M : Nat} {cap : Int} {ps : Ps} {o : Option (Nat × Str)} {k : Nat} {d : Str} {a3 : Sl} {Q : Int → AH → Prop} (g : Glob ro) (h : Disk tag σ 10 T M cap ps) (hc0 : 0 ≤ cap) (hc1 : cap ≤ 1073741824) (hS : StFs o (pfs ps)) (hk : k < 10) (hD : SL.Data ro tag σ a3 (d.map vU)) (hdl : d.length < 4611686018427387904)
    (hfail : ∀ e, e ≠ 0 → (1048576 < d.length ∨ (∃ k0 d0, o = some (k0, d0) ∧ k ≤ k0) ∨ cap < (used (pfs ps) + d.length + 35 : Nat)) → ∀ ps' tag' σ', StepS SC ro tag σ tag' σ' → Disk tag' σ' 10 T M cap ps' → StFs o (pfs ps') → Q e σ')
    (hok : d.length ≤ 1048576 → (∀ k0 d0, o = some (k0, d0) → k0 < k) → ∀ ps' tag' σ', StepS SC ro tag σ tag' σ' → Disk tag' σ' 10 T M cap ps' → StFs (some (k, d)) (pfs ps') → Q 0 σ') :
    c_snap_Save B ro (some ⟨T, 0, none⟩) (S [115]) (k : Int) a3 σ Q := by
  refine snap_Save_ok fun hs => ?_
  unfold f_snap_Save
  have hln : a3.len = d.length := by rw [hD.len, List.length_map]
  refine nw_cells (tag := tag) 42 hs fun x4 tag1 σ1 st1 r1 => ?_
  refine ⟨_, Row.cell1 r1 (st1 []).sep, ?_⟩
  have h1 := h.keep (st1 []) (by simp)
  refine c_snap_Load_mono (Q := fun n s b e σ2 => e = 0 ∧ ∃ tag2, StepS [0, 7, 8, 9, 31] ro tag1 σ1 tag2 σ2 ∧ ((b = false ∧ o = none) ∨ (b = true ∧ ∃ k0 d0, o = some (k0, d0) ∧ n = (k0 : Nat)))) (load_ok g h1 (by decide) (by decide) hS (fun e tag2 σ2 st2 => ⟨rfl, tag2, st2, .inl ⟨rfl, e⟩⟩) fun k0 d0 e s' tag2 σ2 st2 _ => ⟨rfl, tag2, st2, .inr ⟨rfl, k0, d0, e, rfl⟩⟩) ?_
  rintro n s b e σ2 hs2 ⟨rfl, tag2, st2, hb⟩
  have h2 : Disk tag2 σ2 10 T M cap ps := DiskAt.keepS h1 st2 (by decide)
  have s02 : StepS SC ro tag σ tag2 σ2 := ((st1 []).s (by simp)).trans (st2.mono (by decide))
  rw [if_neg (by simp), if_neg (by omega), hln]
  by_cases c1 : 1048576 < d.length
  · rw [if_pos (by omega)]
    exact hfail 14 (by decide) (.inl c1) ps tag2 σ2 s02 h2 hS
  rw [if_neg (by omega)]
  by_cases c2 : b = true ∧ (k : Int) ≤ n
  · rw [if_pos c2]
    rcases hb with ⟨h0, _⟩ | ⟨_, k0, d0, e0, e1⟩
    · rw [h0] at c2; cases c2.1
    · exact hfail 41 (by decide) (.inr (.inl ⟨k0, d0, e0, by omega⟩)) ps tag2 σ2 s02 h2 hS
  rw [if_neg c2]
  have ho : ∀ k0 d0, o = some (k0, d0) → k0 < k := fun k0 d0 e => by
    rcases hb with ⟨_, h0⟩ | ⟨h0, k1, d1, e0, e1⟩
    · rw [h0] at e; cases e
    · rw [e0] at e; cases e
      have : ¬ (k : Int) ≤ n := fun hh => c2 ⟨h0, hh⟩
      omega
  obtain ⟨f1, f2⟩ := hS.fresh hk ho
  have p1 := pfs_none f1
  have p2 := pfs_none f2
  have hne := name_ne hk
  have hdf := dname_dfile hk
  have hdt : dName tmpN = true := by decide
  have hU := hS.used h.keys
  refine dataFile_ok g hk ⟨by decide, ?_⟩
  rw [show (⟨#[46, 116, 109, 112]⟩ : ByteArray) = S [46, 116, 109, 112] from rfl, S_append]
  refine nw_cells (tag := tag2) 40 hs2 fun x13 tag3 σ3 st3 r3 => ?_
  refine nw_cells (tag := tag3) 41 (st3 []).sep fun x14 tag4 σ4 st4 r4 => ?_
  refine (r3.keep (st4 []) (by simp)).stAll (st4 []).sep rfl (by simp [storable]) fun σ5 st5 r5 => ?_
  refine (r4.keep st5 (by decide)).stAll st5.sep rfl (by simp [storable]) fun σ6 st6 r6 => ?_
  have s26 : StepS [40, 41] ro tag2 σ2 tag4 σ6 := ((st3 []).s (by simp)).trans (((st4 []).s (by simp)).trans ((st5.s (by decide)).trans (st6.s (by decide))))
  have h6 : Disk tag4 σ6 10 T M cap ps := DiskAt.keepS h2 s26 (by decide)
  have r13 : Row tag4 σ6 40 9 ⟨some ⟨x13, 0, none⟩, 1, 1⟩ [Pa.vS (dfile k)] := r5.keep st6 (by decide)
  have r14 : Row tag4 σ6 41 9 ⟨some ⟨x14, 0, none⟩, 1, 1⟩ [Pa.vS tmpN] := r6
  have r04 := (r1.keepS st2 (by decide)).keepS s26 (by decide)
  refine clear_ok (a := dfile k) (c := tmpN) h6 (by decide) (by decide) hdf hdt r13 r14 r04 fun tag7 σ7 st7 h7 => ?_
  rw [adel_no p1, adel_no p2] at h7
  have hs7 := st7.sep
  have r13 := r13.keepS st7 (by decide)
  have r14 := r14.keepS st7 (by decide)
  have r04 := r04.keepS st7 (by decide)
  have s07 : StepS SC ro tag σ tag7 σ7 := s02.trans ((s26.mono (by decide)).trans (st7.mono (by decide)))
  have hD7 := hD.keepS s07 (by decide)
  refine lent_roles tag7 [40, 41] ?_
  have hsL : SL.Sep (join ro (inR tag7 [40, 41] σ7)) (outR tag7 [40, 41] σ7) := hs7.lentR
  refine ⟨S (dfile k), r13.lendR hs7 (i := 0) (by decide) rfl rfl, S tmpN, r14.lendR hs7 (i := 0) (by decide) rfl rfl, ?_⟩
  have hDL := hD7.outR (L := [40, 41]) (by decide)
  refine digestOf_ok (tag := tag7) (l := d) (fun tag' σ' st => (hDL.keep st (by decide)).read st.sep) hdl fun tag8 σ8 st8 => ?_
  refine mbytes_ok (tag := tag8) (q := 2) (by decide) (by omega) hdl fun s9 tag9 σ9 st9 r9 => ?_
  refine nw_cells (tag := tag9) 44 st9.sep fun x69 tagA σA stA rA => ?_
  intro hdis
  have sL : StepS [0, 1, 2] (join ro (inR tag7 [40, 41] σ7)) tag7 (outR tag7 [40, 41] σ7) tagA σA := (st8.s (by decide)).trans ((st9.s (by decide)).trans ((stA []).s (by simp)))
  have stB := sL.backR hs7 hdis
  have rM := (r9.keep (stA []) (by simp)).backR hdis
  have r69 := rA.backR hdis
  generalize tagB tag7 tagA [40, 41] σ7 = tagB' at stB rM r69
  generalize join (inR tag7 [40, 41] σ7) σA = σB at stB rM r69
  have hsB := stB.sep
  have hB : Disk tagB' σB 10 T M cap ps := DiskAt.keepS h7 stB (by decide)
  have r13 := r13.keepS stB (by decide)
  have r14 := r14.keepS stB (by decide)
  have r04 := r04.keepS stB (by decide)
  have s0B : StepS SC ro tag σ tagB' σB := s07.trans (stB.mono (by decide))
  have hDB := hD.keepS s0B (by decide)
  obtain ⟨p69, hp69, hg69⟩ := r69.ptr hsB (by simp)
  cases hp69
  -- the first file
  refine lfpD.intro ?_
  unfold l41_snap_Save
  rw [if_pos (by simp)]
  refine ⟨_, rfl, by omega, by simp, S (dfile k), a3, cellsAt_of 0 fun i v hv => ?_, ?_⟩
  · rw [Nat.zero_add]
    match i, hv with
    | 0, hv => cases hv; exact hg69 0 _ rfl
    | 1, hv => cases hv; exact hg69 1 _ rfl
  refine nw_st (tag := tagB') 45 hsB rfl (by simp [storable, Sl.v]) fun x17 tagC σC stC rC => ?_
  have hsC := (stC []).sep
  obtain ⟨p17, hp17, hg17⟩ := rC.ptr hsC (by simp)
  cases hp17
  refine ⟨_, Row.cell1 (r04.keep (stC []) (by simp)) hsC, S (dfile k), hg17 0 _ rfl, a3, hg17 1 _ rfl, ?_⟩
  have hC := hB.keep (stC []) (by simp)
  have hDC := hDB.keep (stC []) (by simp)
  have s0C : StepS SC ro tag σ tagC σC := s0B.trans ((stC []).s (by simp))
  refine append_ok (n := dfile k) (d := d) hC (by decide) (by decide) hc0 hc1 (by omega) hln (by omega) (fun tag' σ' st => (hDC.keepS st (by decide)).read st.sep) (fun e => by rw [hdf] at e; cases e) ?_ ?_
  · intro _ hsp tagD σD stD
    rw [if_pos (by decide)]
    have hD' := hC.keep stD (by decide)
    refine clear_ok (a := dfile k) (c := tmpN) hD' (by decide) (by decide) hdf hdt ((r13.keep (stC []) (by simp)).keep stD (by decide)) ((r14.keep (stC []) (by simp)).keep stD (by decide)) ((r04.keep (stC []) (by simp)).keep stD (by decide)) fun tagE σE stE hE => ?_
    rw [adel_no p1, adel_no p2] at hE
    exact hfail 32 (by decide) (.inr (.inr (by omega))) ps tagE σE (s0C.trans ((stD.s (by decide)).trans (stE.mono (by decide)))) hE hS
  · intro _ hfit ps2 tagD σD stD hD2 e2
    rw [if_neg (by simp)]
    rw [fapp_new f1] at e2
    have hsD := stD.sep
    have r69D := (r69.keep (stC []) (by simp)).keepS stD (by decide)
    obtain ⟨p69, hp69, hg69⟩ := r69D.ptr hsD (by simp)
    cases hp69
    have r13 := (r13.keep (stC []) (by simp)).keepS stD (by decide)
    have r14 := (r14.keep (stC []) (by simp)).keepS stD (by decide)
    have r04 := (r04.keep (stC []) (by simp)).keepS stD (by decide)
    have rM := (rM.keep (stC []) (by simp)).keepS stD (by decide)
    refine lfpD.intro ?_
    rw [show IntKind.i64.wrap (0 + 1) = 1 from by decide, if_pos (by simp)]
    refine ⟨_, rfl, by omega, by simp, S tmpN, s9, cellsAt_of 0 fun i v hv => ?_, ?_⟩
    · rw [Nat.zero_add]
      match i, hv with
      | 0, hv => cases hv; exact hg69 2 _ rfl
      | 1, hv => cases hv; exact hg69 3 _ rfl
    refine nw_st (tag := tagD) 45 hsD rfl (by simp [storable, Sl.v]) fun y17 tagE σE stE rE => ?_
    have hsE := (stE []).sep
    obtain ⟨p17, hp17, hg17⟩ := rE.ptr hsE (by simp)
    cases hp17
    refine ⟨_, Row.cell1 (r04.keep (stE []) (by simp)) hsE, S tmpN, hg17 0 _ rfl, s9, hg17 1 _ rfl, ?_⟩
    have hE := hD2.keep (stE []) (by simp)
    have rM := rM.keep (stE []) (by simp)
    have hm35 := man35 (d := d) hk (by omega)
    have hu2 : used (pfs ps2) = used (pfs ps) + d.length := by rw [e2, used_app]
    have s0E : StepS SC ro tag σ tagE σE := s0C.trans ((stD.mono (by decide)).trans ((stE []).s (by simp)))
    have g1 : (pfs ps2).lookup tmpN = none := by rw [e2, look_app f1, if_neg (fun e => hne.2 e.symm)]; exact f2
    refine append_ok (n := tmpN) (d := man k d) hE (by decide) (by decide) hc0 hc1 (by omega) (by rw [rM.len, List.length_map]) (by omega) (fun tag' σ' st => (rM.keepS st (by decide)).read st.sep) (fun e => by rw [hdt] at e; cases e) ?_ ?_
    · intro _ hsp tagF σF stF
      rw [if_pos (by decide)]
      have hF' := hE.keep stF (by decide)
      refine clear_ok (a := dfile k) (c := tmpN) hF' (by decide) (by decide) hdf hdt ((r13.keep (stE []) (by simp)).keep stF (by decide)) ((r14.keep (stE []) (by simp)).keep stF (by decide)) ((r04.keep (stE []) (by simp)).keep stF (by decide)) fun tagG σG stG hG => ?_
      refine hfail 32 (by decide) (.inr (.inr (by omega))) _ tagG σG (s0E.trans ((stF.s (by decide)).trans (stG.mono (by decide)))) hG ?_
      rw [pfs_del, pfs_del, e2, adel_app f1, adel_no f2]
      exact hS
    · intro _ hfit2 ps3 tagF σF stF hF3 e3
      rw [if_neg (by simp)]
      rw [fapp_new g1, e2] at e3
      refine lfpD.intro ?_
      rw [show IntKind.i64.wrap (1 + 1) = 2 from by decide, if_neg (by simp)]
      refine finish_ok (fs := pfs ps) (o := o) g hF3 stF.sep hk (by omega) hS (by rw [pfs_keys]; exact h.keys) ho e3 ((r04.keep (stE []) (by simp)).keepS stF (by decide)) ((r13.keep (stE []) (by simp)).keepS stF (by decide)) ((r14.keep (stE []) (by simp)).keepS stF (by decide)) fun ps' tagG σG stG hG hFs => ?_
      exact hok (by omega) ho ps' tagG σG (s0E.trans ((stF.mono (by decide)).trans (stG.mono (by decide)))) hG hFs
end Go.Proofs.YtfobjidchipdaaaGreatDoor.Sn

/- The document's copies: bytes joined, copied; whole numbers copied. -/
namespace Go.Proofs.YtfobjidchipdaaaGreatDoor.SL
open Go
variable {ro σ σ' σ1 : AH} {tag tag' tag1 : Nat → Nat}
theorem fresh_step {x : Nat} (hx : x ≠ 0) (st : Step [x] ro (fun _ => 0) σ tag1 σ1) (tag : Nat → Nat) (y : Nat) :
    ∃ tag', (∀ R, Step R ro tag σ tag' σ1) ∧ ∀ e s l, Row tag1 σ1 x e s l → Row tag' σ1 y e s l := by
  refine ⟨fun c => if (σ c).isSome then tag c else y, fun R => ⟨fun b o hb _ => ⟨by simp [hb], ?_⟩, fun b o hb => ⟨by simp [hb], o, ?_⟩, st.sep⟩, fun e s l h => ?_⟩
  · exact (st.keep b o hb (by simp; omega)).2
  · exact (st.keep b o hb (by simp; omega)).2
  · rcases h with h | ⟨b, cs, ha, ht, hb, hx'⟩
    · exact .inl h
    · refine .inr ⟨b, cs, ha, ?_, hb, hx'⟩
      cases e : σ b with
      | none => simp [e]
      | some o =>
        have := (st.old b o e).1
        rw [ht] at this; exact absurd this hx
theorem Read.fresh {x : Nat} {s : Sl} {l : List Value} (hx : x ≠ 0) (h : Read ro σ s l) (st : Step [x] ro (fun _ => 0) σ tag1 σ1) : Read ro σ1 s l := by
  obtain ⟨tg, k, _⟩ := fresh_step hx st (fun _ => 0) 0
  exact h.step (k [])
end Go.Proofs.YtfobjidchipdaaaGreatDoor.SL
namespace Go.Proofs.YtfobjidchipdaaaGreatDoor.Zt
open Go Go.Proofs.YtfobjidchipdaaaGreatDoor.SL Go.Proofs.YtfobjidchipdaaaGreatDoor.G Go.Proofs.YtfobjidchipdaaaGreatDoor.Pa
set_option linter.unusedSimpArgs false
set_option linter.unusedVariables false
variable {B : World} {ro σ σ' σ1 : AH} {tag tag' tag1 : Nat → Nat}
set_option maxRecDepth 100000 in
theorem rjoin_ok {a0 : Sl} {ss : List Sl} {ls : List Str} {Q : Sl → AH → Prop} (h : SL.Read ro σ a0 (ss.map Sl.v)) (hl : ls.length = ss.length) (hd : ∀ (i : Nat) (s : Sl) (l : Str), ss[i]? = some s → ls[i]? = some l → SL.Read ro σ s (l.map vU)) (hn : ls.flatten.length ≤ 140737488355328) (hs1 : ss.length ≤ 1000)
    (hQ : ∀ s tag' σ', (∀ R, Step R ro tag σ tag' σ') → Row tag' σ' 6 5 s (ls.flatten.map vU) → Q s σ') : c_ref01_Join B ro a0 σ Q := by
  refine ref01_Join_ok fun hs => ?_
  unfold f_ref01_Join
  refine nw_cells (tag := fun _ => 0) 1 hs fun b tag1 σ1 st1 r1 => ?_
  have ha : a0.len = ss.length := by rw [h.1, List.length_map]
  suffices ∀ (m j : Nat) (s : Sl) tag2 σ2, j + m = ss.length → Step [1] ro (fun _ => 0) σ tag2 σ2 → Row tag2 σ2 1 5 s ((ls.take j).flatten.map vU) → lfpD (l4_ref01_Join B ro a0 Q) (s, (j : Int)) σ2 from
    this _ 0 _ tag1 σ1 (Nat.zero_add _) (st1 _) r1
  intro m
  induction m with
  | zero =>
    intro j s tag2 σ2 hj st2 r2
    refine lfpD.intro ?_
    unfold l4_ref01_Join
    simp only
    rw [if_neg (by omega)]
    unfold j2_ref01_Join
    rw [List.take_of_length_le (by omega)] at r2
    obtain ⟨tg, k1, k2⟩ := fresh_step (by decide) st2 tag 6
    exact hQ s tg σ2 k1 (k2 _ _ _ r2)
  | succ m ih =>
    intro j s tag2 σ2 hj st2 r2
    have hjs : j < ss.length := by omega
    have hjl : j < ls.length := by omega
    have h2 := h.fresh (by decide) st2
    have hd2 := (hd j _ _ (List.getElem?_eq_getElem hjs) (List.getElem?_eq_getElem hjl)).fresh (by decide) st2
    obtain ⟨p, hp⟩ : ∃ p, a0.a = some p := by
      cases e : a0.a with
      | none => have := h.2.1 e; simp at this; rw [this] at hjs; simp at hjs
      | some p => exact ⟨p, rfl⟩
    have hcell := h2.2.2 p hp j (Sl.v ss[j]) (by rw [List.getElem?_map, List.getElem?_eq_getElem hjs]; rfl)
    have etk : (ls.take (j + 1)).flatten = (ls.take j).flatten ++ ls[j] := by
      rw [List.take_add_one, List.getElem?_eq_getElem hjl, List.flatten_append]; simp
    have hlen : (ls.take (j + 1)).flatten.length ≤ ls.flatten.length := by
      conv => rhs; rw [← List.take_append_drop (j + 1) ls, List.flatten_append, List.length_append]
      omega
    rw [etk, List.length_append] at hlen
    refine lfpD.intro ?_
    unfold l4_ref01_Join
    simp only
    rw [if_pos (by omega)]
    refine ⟨p, hp, by omega, by omega, ss[j], by rw [Int.toNat_natCast, Nat.mul_one]; exact hcell, ?_⟩
    refine awp_appendN r2 st2.sep hd2 u30 ty5 rfl (by simp [storable]) (by rw [List.length_map, List.length_map]; omega) (by decide) fun s' tag3 σ3 st3 r3 => ?_
    refine ⟨s', rfl, ?_⟩
    rw [Pa.inc j (by omega)]
    refine ih (j + 1) s' tag3 σ3 (by omega) (st2.trans (st3 _ (.inr (by simp)))) ?_
    rw [etk, List.map_append]; exact r3
set_option maxRecDepth 100000 in
theorem copyInts_ok {a0 : Sl} {ws : List Int} {Q : Sl → AH → Prop} (q : Nat) (h : SL.Read ro (fun _ => none) a0 (ws.map vI)) (hl : ws.length ≤ 17592186044416)
    (hQ : ∀ b tag' σ', Step [q] ro tag σ tag' σ' → Row tag' σ' q 3 ⟨some ⟨b, 0, none⟩, ws.length, ws.length⟩ (ws.map vI) → Q ⟨some ⟨b, 0, none⟩, ws.length, ws.length⟩ σ') : c_ref01_CopyInts B ro a0 σ Q := by
  refine ref01_CopyInts_ok fun hs => ?_
  unfold f_ref01_CopyInts
  have hln : a0.len = ws.length := by rw [h.1, List.length_map]
  rw [hln]
  refine ⟨⟨by omega, by omega, by omega, by omega⟩, ?_⟩
  rw [Int.toNat_natCast]
  intro b hro hb
  have st1 : ∀ R, Step R ro tag σ (setTag tag b q) (upd σ b (.cells (zeros (.int .i64 0) (ws.length * 1)) 3)) := fun R => Step.fresh hs hro hb
  have r1 : Row (setTag tag b q) (upd σ b (.cells (zeros (.int .i64 0) (ws.length * 1)) 3)) q 3 ⟨some ⟨b, 0, none⟩, ws.length, ws.length⟩ (List.replicate ws.length (vI 0)) := by
    refine .inr ⟨b, _, rfl, by simp [setTag], upd_same _ _ _, by simp, by rw [zeros_size]; simp, Nat.le_refl _, fun i hi => ?_⟩
    simp at hi
    rw [zeros_get _ rfl _ _ (by omega), List.getElem?_replicate, if_pos hi]
  have := awp_copyTail (P := Tryz.prog) (ro := ro) (t := 23) (t2 := 23) (ty := 3) (m := 0) (l2 := ws.map vI) (Q := fun v σ => ∃ (x9_2 : Int), v = .int .i64 x9_2 ∧ Q ⟨some ⟨b, 0, none⟩, ws.length, ws.length⟩ σ) r1 (st1 []).sep (by kernel_rfl) ty3 (Read.src h.keep) (by simp) (by simp [storable]) (fun σ2 st2 r2 => ?_)
  · rw [cutA_zero] at this
    exact this
  · rw [List.take_zero, List.nil_append] at r2
    exact ⟨_, rfl, hQ b (setTag tag b q) σ2 ((st1 [q]).trans st2) r2⟩

theorem copy_ok {a0 : Sl} {d : Str} {Q : Sl → AH → Prop} (h : SL.Data ro tag σ a0 (d.map vU)) (hl : d.length ≤ 140737488355328) (hQ : ∀ s tag' σ', (∀ R, Step R ro tag σ tag' σ') → Row tag' σ' 6 5 s (d.map vU) → Q s σ') : c_ref01_Copy B ro a0 σ Q := by
  refine ref01_Copy_ok fun hs => ?_
  unfold f_ref01_Copy
  refine nw_cells (tag := tag) 3 hs fun x tag1 σ1 st1 r1 => ?_
  refine rjoin_ok (tag := tag1) (ss := [a0]) (ls := [d]) (r1.read (st1 []).sep) rfl (fun i s l hs' hl' => ?_) (by simpa using hl) (by simp) fun s tag2 σ2 st2 r2 => ?_
  · cases i with
    | zero => cases hs'; cases hl'; exact (h.keep (st1 []) (by simp)).read (st1 []).sep
    | succ i => cases hs'
  · refine hQ s tag2 σ2 (fun R => (st1 R).trans (st2 R)) ?_
    simpa using r2
end Go.Proofs.YtfobjidchipdaaaGreatDoor.Zt

/- Functions as predicate transformers, and the proofs that the code does what they tell: printed by wip/tools/gen.py. -/
namespace Go.Proofs.YtfobjidchipdaaaGreatDoor.G
open Go Go.Proofs.YtfobjidchipdaaaGreatDoor.SL
set_option linter.unusedVariables false
set_option linter.unusedSimpArgs false

def j8_law05_SnapKeeps (B : World) (ro : AH) (Q : Bool → AH → Prop) (x48_9 : Bool) (σ : AH) : Prop :=
 Q x48_9 σ

def j19_law05_SnapKeeps (B : World) (ro : AH) (Q : Bool → AH → Prop) (x73_20 : Bool) (σ : AH) : Prop :=
 Q x73_20 σ

def j17_law05_SnapKeeps (B : World) (ro : AH) (Q : Bool → AH → Prop) (x70_18 : Bool) (σ : AH) : Prop :=
 if x70_18 = true then
  c_law05_awake B ro σ fun x72_21 σ =>
  j19_law05_SnapKeeps B ro Q x72_21 σ
 else
 j19_law05_SnapKeeps B ro Q false σ

def j41_law05_SnapKeeps (B : World) (ro : AH) (Q : Bool → AH → Prop) (x126_42 : Bool) (σ : AH) : Prop :=
 Q x126_42 σ

def j39_law05_SnapKeeps (B : World) (ro : AH) (Q : Bool → AH → Prop) (x123_40 : Bool) (σ : AH) : Prop :=
 if x123_40 = true then
  c_law05_awake B ro σ fun x125_43 σ =>
  j41_law05_SnapKeeps B ro Q x125_43 σ
 else
 j41_law05_SnapKeeps B ro Q false σ

def j49_law05_SnapKeeps (B : World) (ro : AH) (Q : Bool → AH → Prop) (x144_50 : Bool) (σ : AH) : Prop :=
 Q x144_50 σ

def j47_law05_SnapKeeps (B : World) (ro : AH) (Q : Bool → AH → Prop) (x141_48 : Bool) (σ : AH) : Prop :=
 if x141_48 = true then
  c_law05_awake B ro σ fun x143_51 σ =>
  j49_law05_SnapKeeps B ro Q x143_51 σ
 else
 j49_law05_SnapKeeps B ro Q false σ

def j45_law05_SnapKeeps (B : World) (ro : AH) (x31_6 : Option Addr) (Q : Bool → AH → Prop) (x136_46 : Bool) (σ : AH) : Prop :=
 if x136_46 = true then
  c_snap_Save B ro x31_6 (⟨#[115]⟩ : ByteArray) 4 (⟨none, 0, 0⟩ : Sl) σ fun x139_52 σ =>
  j47_law05_SnapKeeps B ro Q (!(decide (x139_52 = 0))) σ
 else
 j47_law05_SnapKeeps B ro Q false σ

def j30_law05_SnapKeeps (B : World) (ro : AH) (x24_3 : Sl) (x26_4 : Sl) (x28_5 : Sl) (x31_6 : Option Addr) (Q : Bool → AH → Prop) (x96_31 : Bool) (σ : AH) : Prop :=
 if x96_31 = true then
  Q false σ
 else
 c_ref01_Copy B ro x26_4 σ fun x99_32 σ =>
 c_snap_Save B ro x31_6 (⟨#[115]⟩ : ByteArray) 4 x99_32 σ fun x100_33 σ =>
 c_ref01_CopyInts B ro x28_5 σ fun x103_34 σ =>
 c_disk_Disk_Crash B ro x31_6 x103_34 σ fun σ =>
 c_snap_Load B ro x31_6 (⟨#[115]⟩ : ByteArray) σ fun x107_35 x107_36 x107_37 x107_38 σ =>
 if ¬ (x100_33 = 0) then
  if (x107_37 = true) ∧ (x107_35 = 3) then
   c_ref01_Same B ro x107_36 x24_3 σ fun x122_44 σ =>
   j39_law05_SnapKeeps B ro Q x122_44 σ
  else
  j39_law05_SnapKeeps B ro Q false σ
 else
 if (x107_37 = true) ∧ (x107_35 = 4) then
  c_ref01_Same B ro x107_36 x26_4 σ fun x135_53 σ =>
  j45_law05_SnapKeeps B ro x31_6 Q x135_53 σ
 else
 j45_law05_SnapKeeps B ro x31_6 Q false σ

def f_law05_SnapKeeps (B : World) (ro : AH) (a0_0 : Int) (a0_1 : Sl) (a0_2 : Sl) (a0_3 : Sl) (σ : AH) (Q : Bool → AH → Prop) : Prop :=
 nw ro σ (.cells #[.int .i64 a0_0, Sl.v a0_1, Sl.v a0_2, Sl.v a0_3] 25) fun x1_1 σ =>
 ∃ (x22_2 : Int), acell ro σ ⟨x1_1, 0, none⟩ = some (.int .i64 x22_2) ∧
 ∃ (x24_3 : Sl), acell ro σ ((⟨x1_1, 0, none⟩ : Addr).add 1) = some (Sl.v x24_3) ∧
 ∃ (x26_4 : Sl), acell ro σ ((⟨x1_1, 0, none⟩ : Addr).add 2) = some (Sl.v x26_4) ∧
 ∃ (x28_5 : Sl), acell ro σ ((⟨x1_1, 0, none⟩ : Addr).add 3) = some (Sl.v x28_5) ∧
 c_disk_New B ro x22_2 σ fun x31_6 x31_7 σ =>
 if (x31_6 = none) ∨ (¬ (x31_7 = 0)) then
  if (x22_2 < 0) ∨ (1073741824 < x22_2) then
   c_law05_awake B ro σ fun x47_10 σ =>
   j8_law05_SnapKeeps B ro Q x47_10 σ
  else
  j8_law05_SnapKeeps B ro Q false σ
 else
 c_ref01_Copy B ro x24_3 σ fun x51_11 σ =>
 c_snap_Save B ro x31_6 (⟨#[115]⟩ : ByteArray) 3 x51_11 σ fun x52_12 σ =>
 if ¬ (x52_12 = 0) then
  c_snap_Load B ro x31_6 (⟨#[115]⟩ : ByteArray) σ fun x56_13 x56_14 x56_15 x56_16 σ =>
  if ¬ (x56_15 = true) then
   ∃ p65_22 : Addr, x31_6 = some p65_22 ∧
   ∃ (x67_23 : Option Nat), acell ro σ p65_22 = some (.map x67_23) ∧
   c_disk_table_Used B ro x67_23 σ fun x68_24 σ =>
   j17_law05_SnapKeeps B ro Q (decide (x68_24 = 0)) σ
  else
  j17_law05_SnapKeeps B ro Q false σ
 else
 c_ref01_CopyInts B ro x28_5 σ fun x76_25 σ =>
 c_disk_Disk_Crash B ro x31_6 x76_25 σ fun σ =>
 c_snap_Load B ro x31_6 (⟨#[115]⟩ : ByteArray) σ fun x80_26 x80_27 x80_28 x80_29 σ =>
 if (¬ (x80_28 = true)) ∨ (¬ (x80_26 = 3)) then
  j30_law05_SnapKeeps B ro x24_3 x26_4 x28_5 x31_6 Q true σ
 else
 c_ref01_Same B ro x80_27 x24_3 σ fun x94_54 σ =>
 j30_law05_SnapKeeps B ro x24_3 x26_4 x28_5 x31_6 Q (!x94_54) σ

set_option maxRecDepth 100000 in
set_option maxHeartbeats 4000000 in
theorem law05_SnapKeeps_ok {B : World} {ro : AH} {a0_0 : Int} {a0_1 : Sl} {a0_2 : Sl} {a0_3 : Sl} {σ : AH} {Q : Bool → AH → Prop} (h : Sep ro σ → f_law05_SnapKeeps B ro a0_0 a0_1 a0_2 a0_3 σ Q) : c_law05_SnapKeeps B ro a0_0 a0_1 a0_2 a0_3 σ Q := by
  refine ACalls.of_sep fun hsep => ?_
  replace h := h hsep
  refine ACalls.of_body (args := [.agg #[.int .i64 a0_0, Sl.v a0_1, Sl.v a0_2, Sl.v a0_3]]) Tryz.func3 rfl (by rw [Tryz.ntmps3]; simp) ?_
  rw [Tryz.ntmps3]
  unfold f_law05_SnapKeeps at h
  refine AW.seq ?_
  refine AW.reg ?_
  refine Ls rfl rfl (X_new (A_box rfl rfl) fun x1_1 g1 g2 => ?_)
  replace h := h x1_1 g1 g2
  refine Lp (V_asg rfl rfl) rfl rfl ?_
  refine Lnil ?_
  refine thenN ?_
  refine AW.seq ?_
  refine AW.drawn0 (fun i => ([0, 3, 0, 3, 0, 3, 0, 3, 0, 0, 0, 0] : List Nat).getD i 2) [] [0, 2, 4, 6, 1, 8, 3, 9, 5, 10, 7, 11] Tryz.mixed (by decide +kernel) ?_
  refine Dp rfl rfl rfl rfl (V_fld rfl Tryz.underlying25 rfl ty3 (by decide) rfl) ?_
  refine Dp rfl rfl rfl rfl (V_fld rfl Tryz.underlying25 rfl ty22 (by decide) rfl) ?_
  refine Dp rfl rfl rfl rfl (V_fld rfl Tryz.underlying25 rfl ty22 (by decide) rfl) ?_
  refine Dp rfl rfl rfl rfl (V_fld rfl Tryz.underlying25 rfl ty23 (by decide) rfl) ?_
  obtain ⟨x22_2, hc, h⟩ := h
  refine Dr rfl rfl rfl rfl (R_ld rfl Tryz.underlying3 rfl rfl hc) ?_
  refine Dp rfl rfl rfl rfl (V_asg rfl rfl) ?_
  obtain ⟨x24_3, hc, h⟩ := h
  refine Dr rfl rfl rfl rfl (R_ld rfl Tryz.underlying22 rfl rfl hc) ?_
  refine Dp rfl rfl rfl rfl (V_asg rfl rfl) ?_
  obtain ⟨x26_4, hc, h⟩ := h
  refine Dr rfl rfl rfl rfl (R_ld rfl Tryz.underlying22 rfl rfl hc) ?_
  refine Dp rfl rfl rfl rfl (V_asg rfl rfl) ?_
  obtain ⟨x28_5, hc, h⟩ := h
  refine Dr rfl rfl rfl rfl (R_ld rfl Tryz.underlying23 rfl rfl hc) ?_
  refine Dp rfl rfl rfl rfl (V_asg rfl rfl) ?_
  refine Dend ?_
  refine thenN ?_
  refine AW.seq ?_
  refine AW.reg ?_
  refine Lp (V_move rfl rfl) rfl rfl ?_
  refine Ls rfl rfl (X_call rfl Tryz.func9 rfl rfl rfl (ACalls.mono h ?_))
  rintro v σ ⟨x31_6, x31_7, rfl, h⟩
  refine Lp (V_move rfl rfl) rfl rfl ?_
  refine Lp (V_ext rfl rfl rfl) rfl rfl ?_
  refine Lp (V_ext rfl rfl rfl) rfl rfl ?_
  refine Lp (V_asg rfl rfl) rfl rfl ?_
  refine Lp (V_asg rfl rfl) rfl rfl ?_
  refine Lnil ?_
  refine thenN ?_
  refine AW.seq ?_
  refine AW.seq ?_
  refine AW.reg ?_
  refine Lp (V_move rfl rfl) rfl rfl ?_
  refine Lp (V_eqP rfl Tryz.underlying26 rfl rfl) rfl rfl ?_
  refine Lp (V_move rfl rfl) rfl rfl ?_
  refine Lsplit 3 x31_6.isNone [(3, .int .i64 x22_2), (4, Sl.v x24_3), (5, Sl.v x26_4), (6, Sl.v x28_5), (7, .pointer x31_6), (39, .bool (x31_6.isNone || (!(decide (x31_7 = 0)))))] ?_ ?_ ?_
  · intro e2 hk2
    refine Ln rfl rfl rfl rfl (.inl (by rw [e2]; rfl)) ?_
    refine Ln rfl rfl rfl rfl (.inl (by rw [e2]; rfl)) ?_
    refine Lp (V_pickT rfl (evb e2) rfl) rfl rfl ?_
    exact hk2 _ (FrLe.cons rfl (FrLe.cons rfl (FrLe.cons rfl (FrLe.cons rfl (FrLe.cons rfl (FrLe.cons (by rw [e2]; rfl) (FrLe.nil _)))))))
  · intro e2 hk2
    refine Lypb (V_move rfl rfl) rfl rfl rfl rfl e2 ?_
    refine Lypb (V_neq rfl rfl rfl) rfl rfl rfl rfl e2 ?_
    refine Lp (V_pickF rfl (evb e2) rfl) rfl rfl ?_
    exact hk2 _ (FrLe.cons rfl (FrLe.cons rfl (FrLe.cons rfl (FrLe.cons rfl (FrLe.cons rfl (FrLe.cons (by rw [e2]; rfl) (FrLe.nil _)))))))
  intro fr hl
  refine Lfr hl ?_
  refine Lnil ?_
  refine thenN ?_
  refine AW.iff rfl (bor_iff isNone_iff (bnot_iff decide_eq_true_iff)) h (fun h => ?_) (fun h => ?_)
  · refine AW.seq ?_
    refine AW.reg ?_
    refine Lp (V_move rfl rfl) rfl rfl ?_
    refine Lp (V_lss rfl rfl rfl) rfl rfl ?_
    refine Lp (V_move rfl rfl) rfl rfl ?_
    refine Lsplit 3 (decide (x22_2 < 0)) [(45, .bool ((decide (x22_2 < 0)) || (decide (1073741824 < x22_2))))] ?_ ?_ ?_
    · intro e2 hk2
      refine Ln rfl rfl rfl rfl (.inl (by rw [e2]; rfl)) ?_
      refine Ln rfl rfl rfl rfl (.inl (by rw [e2]; rfl)) ?_
      refine Lp (V_pickT rfl (evb e2) rfl) rfl rfl ?_
      exact hk2 _ (FrLe.cons (by rw [e2]; rfl) (FrLe.nil _))
    · intro e2 hk2
      refine Lypb (V_move rfl rfl) rfl rfl rfl rfl e2 ?_
      refine Lypb (V_gtr rfl rfl rfl) rfl rfl rfl rfl e2 ?_
      refine Lp (V_pickF rfl (evb e2) rfl) rfl rfl ?_
      exact hk2 _ (FrLe.cons (by rw [e2]; rfl) (FrLe.nil _))
    intro fr hl
    refine Lfr hl ?_
    refine Lp (V_move rfl rfl) rfl rfl ?_
    refine LsplitJ 2 ((decide (x22_2 < 0)) || (decide (1073741824 < x22_2))) (bor_iff decide_eq_true_iff decide_eq_true_iff) h (fun fr σ => ∃ (x48_9 : Bool), FrLe [(48, .bool x48_9)] fr ∧ j8_law05_SnapKeeps B ro Q x48_9 σ) ?_ ?_ ?_
    · intro h e6 hk6
      refine Lyb rfl rfl rfl rfl e6 (X_call rfl Tryz.func10 rfl rfl rfl (ACalls.mono h ?_))
      rintro v σ ⟨x47_10, rfl, h⟩
      refine Lp (V_pickT rfl (evb e6) rfl) rfl rfl ?_
      exact hk6 _ _ ⟨_, (FrLe.cons rfl (FrLe.nil _)), h⟩
    · intro h e6 hk6
      refine Ln rfl rfl rfl rfl (.inl (by rw [e6]; rfl)) ?_
      refine Lp (V_pickF rfl (evb e6) rfl) rfl rfl ?_
      exact hk6 _ _ ⟨_, (FrLe.cons rfl (FrLe.nil _)), h⟩
    rintro fr σ ⟨x48_9, hl, h⟩
    unfold j8_law05_SnapKeeps at h
    refine Lfr hl ?_
    refine Lp (V_asg rfl rfl) rfl rfl ?_
    refine Lnil ?_
    refine thenN ?_
    refine AW.ret ?_
    refine thenR ?_
    exact bR1 Tryz.results3 rfl ⟨_, rfl, h⟩
  refine AW.skip ?_
  refine thenN ?_
  refine AW.seq ?_
  refine AW.seq ?_
  refine AW.reg ?_
  refine Lp (V_move rfl rfl) rfl rfl ?_
  refine Lp (V_move rfl rfl) rfl rfl ?_
  refine Ls rfl rfl (X_call rfl Tryz.func12 rfl rfl rfl (ACalls.mono h ?_))
  rintro v σ ⟨x51_11, rfl, h⟩
  refine Ls rfl rfl (X_call rfl Tryz.func11 rfl rfl rfl (ACalls.mono h ?_))
  rintro v σ ⟨x52_12, rfl, h⟩
  refine Lp (V_neq rfl rfl rfl) rfl rfl ?_
  refine Lnil ?_
  refine thenN ?_
  refine AW.iff rfl (bnot_iff decide_eq_true_iff) h (fun h => ?_) (fun h => ?_)
  · refine AW.seq ?_
    refine AW.reg ?_
    refine Lp (V_move rfl rfl) rfl rfl ?_
    refine Ls rfl rfl (X_call rfl Tryz.func13 rfl rfl rfl (ACalls.mono h ?_))
    rintro v σ ⟨x56_13, x56_14, x56_15, x56_16, rfl, h⟩
    refine Lp (V_move rfl rfl) rfl rfl ?_
    refine Lp (V_ext rfl rfl rfl) rfl rfl ?_
    refine Lp (V_ext rfl rfl rfl) rfl rfl ?_
    refine Lp (V_ext rfl rfl rfl) rfl rfl ?_
    refine Lp (V_ext rfl rfl rfl) rfl rfl ?_
    refine Lp (V_asg rfl rfl) rfl rfl ?_
    refine Lp (V_asg rfl rfl) rfl rfl ?_
    refine Lp (V_asg rfl rfl) rfl rfl ?_
    refine Lp (V_asg rfl rfl) rfl rfl ?_
    refine Lnil ?_
    refine thenN ?_
    refine AW.seq ?_
    refine AW.reg ?_
    refine Lp (V_move rfl rfl) rfl rfl ?_
    refine Lp (V_not rfl rfl) rfl rfl ?_
    refine Lp (V_move rfl rfl) rfl rfl ?_
    refine LsplitJ 7 (!x56_15) (bnot_iff Iff.rfl) h (fun fr σ => ∃ (x70_18 : Bool), FrLe [(70, .bool x70_18)] fr ∧ j17_law05_SnapKeeps B ro Q x70_18 σ) ?_ ?_ ?_
    · intro h e2 hk2
      refine Lypb (V_move rfl rfl) rfl rfl rfl rfl e2 ?_
      obtain ⟨p65_22, hc, h⟩ := h
      refine Lypb (V_nil rfl (by rw [← hc]; rfl)) rfl rfl rfl rfl e2 ?_
      refine Lypb (V_fld rfl Tryz.underlying39 rfl ty37 (by decide) rfl) rfl rfl rfl rfl e2 ?_
      obtain ⟨x67_23, hc, h⟩ := h
      refine Lyb rfl rfl rfl rfl e2 (X_ld rfl Tryz.underlying37 rfl rfl hc ?_)
      refine Lyb rfl rfl rfl rfl e2 (X_call rfl Tryz.func14 rfl rfl rfl (ACalls.mono h ?_))
      rintro v σ ⟨x68_24, rfl, h⟩
      refine Lypb (V_eql rfl rfl rfl) rfl rfl rfl rfl e2 ?_
      refine Lp (V_pickT rfl (evb e2) rfl) rfl rfl ?_
      exact hk2 _ _ ⟨_, (FrLe.cons rfl (FrLe.nil _)), h⟩
    · intro h e2 hk2
      refine Ln rfl rfl rfl rfl (.inl (by rw [e2]; rfl)) ?_
      refine Ln rfl rfl rfl rfl (.inl (by rw [e2]; rfl)) ?_
      refine Ln rfl rfl rfl rfl (.inl (by rw [e2]; rfl)) ?_
      refine Ln rfl rfl rfl rfl (.inl (by rw [e2]; rfl)) ?_
      refine Ln rfl rfl rfl rfl (.inl (by rw [e2]; rfl)) ?_
      refine Ln rfl rfl rfl rfl (.inl (by rw [e2]; rfl)) ?_
      refine Lp (V_pickF rfl (evb e2) rfl) rfl rfl ?_
      exact hk2 _ _ ⟨_, (FrLe.cons rfl (FrLe.nil _)), h⟩
    rintro fr σ ⟨x70_18, hl, h⟩
    unfold j17_law05_SnapKeeps at h
    refine Lfr hl ?_
    refine Lp (V_move rfl rfl) rfl rfl ?_
    refine LsplitJ 2 x70_18 Iff.rfl h (fun fr σ => ∃ (x73_20 : Bool), FrLe [(73, .bool x73_20)] fr ∧ j19_law05_SnapKeeps B ro Q x73_20 σ) ?_ ?_ ?_
    · intro h e10 hk10
      refine Lyb rfl rfl rfl rfl e10 (X_call rfl Tryz.func10 rfl rfl rfl (ACalls.mono h ?_))
      rintro v σ ⟨x72_21, rfl, h⟩
      refine Lp (V_pickT rfl (evb e10) rfl) rfl rfl ?_
      exact hk10 _ _ ⟨_, (FrLe.cons rfl (FrLe.nil _)), h⟩
    · intro h e10 hk10
      refine Ln rfl rfl rfl rfl (.inl (by rw [e10]; rfl)) ?_
      refine Lp (V_pickF rfl (evb e10) rfl) rfl rfl ?_
      exact hk10 _ _ ⟨_, (FrLe.cons rfl (FrLe.nil _)), h⟩
    rintro fr σ ⟨x73_20, hl, h⟩
    unfold j19_law05_SnapKeeps at h
    refine Lfr hl ?_
    refine Lp (V_asg rfl rfl) rfl rfl ?_
    refine Lnil ?_
    refine thenN ?_
    refine AW.ret ?_
    refine thenR ?_
    exact bR1 Tryz.results3 rfl ⟨_, rfl, h⟩
  refine AW.skip ?_
  refine thenN ?_
  refine AW.seq ?_
  refine AW.reg ?_
  refine Lp (V_move rfl rfl) rfl rfl ?_
  refine Lp (V_move rfl rfl) rfl rfl ?_
  refine Ls rfl rfl (X_call rfl Tryz.func16 rfl rfl rfl (ACalls.mono h ?_))
  rintro v σ ⟨x76_25, rfl, h⟩
  refine Ls rfl rfl (X_call rfl Tryz.func15 rfl rfl rfl (ACalls.mono h ?_))
  rintro v σ ⟨rfl, h⟩
  refine Lnil ?_
  refine thenN ?_
  refine AW.seq ?_
  refine AW.reg ?_
  refine Lp (V_move rfl rfl) rfl rfl ?_
  refine Ls rfl rfl (X_call rfl Tryz.func13 rfl rfl rfl (ACalls.mono h ?_))
  rintro v σ ⟨x80_26, x80_27, x80_28, x80_29, rfl, h⟩
  refine Lp (V_move rfl rfl) rfl rfl ?_
  refine Lp (V_ext rfl rfl rfl) rfl rfl ?_
  refine Lp (V_ext rfl rfl rfl) rfl rfl ?_
  refine Lp (V_ext rfl rfl rfl) rfl rfl ?_
  refine Lp (V_ext rfl rfl rfl) rfl rfl ?_
  refine Lp (V_asg rfl rfl) rfl rfl ?_
  refine Lp (V_asg rfl rfl) rfl rfl ?_
  refine Lp (V_asg rfl rfl) rfl rfl ?_
  refine Lp (V_asg rfl rfl) rfl rfl ?_
  refine Lnil ?_
  refine thenN ?_
  refine AW.seq ?_
  refine AW.seq ?_
  refine AW.reg ?_
  refine Lp (V_move rfl rfl) rfl rfl ?_
  refine Lp (V_not rfl rfl) rfl rfl ?_
  refine Lp (V_move rfl rfl) rfl rfl ?_
  refine Lsplit 3 (!x80_28) [(4, Sl.v x24_3), (5, Sl.v x26_4), (6, Sl.v x28_5), (7, .pointer x31_6), (14, Sl.v x80_27), (90, .bool ((!x80_28) || (!(decide (x80_26 = 3)))))] ?_ ?_ ?_
  · intro e2 hk2
    refine Ln rfl rfl rfl rfl (.inl (by rw [e2]; rfl)) ?_
    refine Ln rfl rfl rfl rfl (.inl (by rw [e2]; rfl)) ?_
    refine Lp (V_pickT rfl (evb e2) rfl) rfl rfl ?_
    exact hk2 _ (FrLe.cons rfl (FrLe.cons rfl (FrLe.cons rfl (FrLe.cons rfl (FrLe.cons rfl (FrLe.cons (by rw [e2]; rfl) (FrLe.nil _)))))))
  · intro e2 hk2
    refine Lypb (V_move rfl rfl) rfl rfl rfl rfl e2 ?_
    refine Lypb (V_neq rfl rfl rfl) rfl rfl rfl rfl e2 ?_
    refine Lp (V_pickF rfl (evb e2) rfl) rfl rfl ?_
    exact hk2 _ (FrLe.cons rfl (FrLe.cons rfl (FrLe.cons rfl (FrLe.cons rfl (FrLe.cons rfl (FrLe.cons (by rw [e2]; rfl) (FrLe.nil _)))))))
  intro fr hl
  refine Lfr hl ?_
  refine Lp (V_move rfl rfl) rfl rfl ?_
  refine LsplitJ 5 ((!x80_28) || (!(decide (x80_26 = 3)))) (bor_iff (bnot_iff Iff.rfl) (bnot_iff decide_eq_true_iff)) h (fun fr σ => ∃ (x96_31 : Bool), FrLe [(4, Sl.v x24_3), (5, Sl.v x26_4), (6, Sl.v x28_5), (7, .pointer x31_6), (96, .bool x96_31)] fr ∧ j30_law05_SnapKeeps B ro x24_3 x26_4 x28_5 x31_6 Q x96_31 σ) ?_ ?_ ?_
  · intro h e6 hk6
    refine Ln rfl rfl rfl rfl (.inl (by rw [e6]; rfl)) ?_
    refine Ln rfl rfl rfl rfl (.inl (by rw [e6]; rfl)) ?_
    refine Ln rfl rfl rfl rfl (.inl (by rw [e6]; rfl)) ?_
    refine Ln rfl rfl rfl rfl (.inl (by rw [e6]; rfl)) ?_
    refine Lp (V_pickT rfl (evb e6) rfl) rfl rfl ?_
    exact hk6 _ _ ⟨_, (FrLe.cons rfl (FrLe.cons rfl (FrLe.cons rfl (FrLe.cons rfl (FrLe.cons rfl (FrLe.nil _)))))), h⟩
  · intro h e6 hk6
    refine Lypb (V_move rfl rfl) rfl rfl rfl rfl e6 ?_
    refine Lypb (V_move rfl rfl) rfl rfl rfl rfl e6 ?_
    refine Lyb rfl rfl rfl rfl e6 (X_call rfl Tryz.func17 rfl rfl rfl (ACalls.mono h ?_))
    rintro v σ ⟨x94_54, rfl, h⟩
    refine Lypb (V_not rfl rfl) rfl rfl rfl rfl e6 ?_
    refine Lp (V_pickF rfl (evb e6) rfl) rfl rfl ?_
    exact hk6 _ _ ⟨_, (FrLe.cons rfl (FrLe.cons rfl (FrLe.cons rfl (FrLe.cons rfl (FrLe.cons rfl (FrLe.nil _)))))), h⟩
  rintro fr σ ⟨x96_31, hl, h⟩
  unfold j30_law05_SnapKeeps at h
  refine Lfr hl ?_
  refine Lnil ?_
  refine thenN ?_
  refine AW.iff rfl Iff.rfl h (fun h => ?_) (fun h => ?_)
  · refine AW.seq ?_
    refine AW.reg ?_
    refine Lp (V_asg rfl rfl) rfl rfl ?_
    refine Lnil ?_
    refine thenN ?_
    refine AW.ret ?_
    refine thenR ?_
    exact bR1 Tryz.results3 rfl ⟨_, rfl, h⟩
  refine AW.skip ?_
  refine thenN ?_
  refine AW.seq ?_
  refine AW.reg ?_
  refine Lp (V_move rfl rfl) rfl rfl ?_
  refine Lp (V_move rfl rfl) rfl rfl ?_
  refine Ls rfl rfl (X_call rfl Tryz.func12 rfl rfl rfl (ACalls.mono h ?_))
  rintro v σ ⟨x99_32, rfl, h⟩
  refine Ls rfl rfl (X_call rfl Tryz.func11 rfl rfl rfl (ACalls.mono h ?_))
  rintro v σ ⟨x100_33, rfl, h⟩
  refine Lp (V_asg rfl rfl) rfl rfl ?_
  refine Lnil ?_
  refine thenN ?_
  refine AW.seq ?_
  refine AW.reg ?_
  refine Lp (V_move rfl rfl) rfl rfl ?_
  refine Lp (V_move rfl rfl) rfl rfl ?_
  refine Ls rfl rfl (X_call rfl Tryz.func16 rfl rfl rfl (ACalls.mono h ?_))
  rintro v σ ⟨x103_34, rfl, h⟩
  refine Ls rfl rfl (X_call rfl Tryz.func15 rfl rfl rfl (ACalls.mono h ?_))
  rintro v σ ⟨rfl, h⟩
  refine Lnil ?_
  refine thenN ?_
  refine AW.seq ?_
  refine AW.reg ?_
  refine Lp (V_move rfl rfl) rfl rfl ?_
  refine Ls rfl rfl (X_call rfl Tryz.func13 rfl rfl rfl (ACalls.mono h ?_))
  rintro v σ ⟨x107_35, x107_36, x107_37, x107_38, rfl, h⟩
  refine Lp (V_move rfl rfl) rfl rfl ?_
  refine Lp (V_ext rfl rfl rfl) rfl rfl ?_
  refine Lp (V_ext rfl rfl rfl) rfl rfl ?_
  refine Lp (V_ext rfl rfl rfl) rfl rfl ?_
  refine Lp (V_ext rfl rfl rfl) rfl rfl ?_
  refine Lp (V_asg rfl rfl) rfl rfl ?_
  refine Lp (V_asg rfl rfl) rfl rfl ?_
  refine Lp (V_asg rfl rfl) rfl rfl ?_
  refine Lp (V_asg rfl rfl) rfl rfl ?_
  refine Lnil ?_
  refine thenN ?_
  refine AW.seq ?_
  refine AW.seq ?_
  refine AW.reg ?_
  refine Lp (V_move rfl rfl) rfl rfl ?_
  refine Lp (V_neq rfl rfl rfl) rfl rfl ?_
  refine Lnil ?_
  refine thenN ?_
  refine AW.iff rfl (bnot_iff decide_eq_true_iff) h (fun h => ?_) (fun h => ?_)
  · refine AW.seq ?_
    refine AW.reg ?_
    refine Lp (V_move rfl rfl) rfl rfl ?_
    refine Lp (V_move rfl rfl) rfl rfl ?_
    refine Lsplit 3 x107_37 [(4, Sl.v x24_3), (19, Sl.v x107_36), (118, .bool (x107_37 && (decide (x107_35 = 3))))] ?_ ?_ ?_
    · intro e1 hk1
      refine Lypb (V_move rfl rfl) rfl rfl rfl rfl e1 ?_
      refine Lypb (V_eql rfl rfl rfl) rfl rfl rfl rfl e1 ?_
      refine Lp (V_pickT rfl (evb e1) rfl) rfl rfl ?_
      exact hk1 _ (FrLe.cons rfl (FrLe.cons rfl (FrLe.cons (by rw [e1]; rfl) (FrLe.nil _))))
    · intro e1 hk1
      refine Ln rfl rfl rfl rfl (.inl (by rw [e1]; rfl)) ?_
      refine Ln rfl rfl rfl rfl (.inl (by rw [e1]; rfl)) ?_
      refine Lp (V_pickF rfl (evb e1) rfl) rfl rfl ?_
      exact hk1 _ (FrLe.cons rfl (FrLe.cons rfl (FrLe.cons (by rw [e1]; rfl) (FrLe.nil _))))
    intro fr hl
    refine Lfr hl ?_
    refine Lp (V_move rfl rfl) rfl rfl ?_
    refine LsplitJ 4 (x107_37 && (decide (x107_35 = 3))) (band_iff Iff.rfl decide_eq_true_iff) h (fun fr σ => ∃ (x123_40 : Bool), FrLe [(123, .bool x123_40)] fr ∧ j39_law05_SnapKeeps B ro Q x123_40 σ) ?_ ?_ ?_
    · intro h e5 hk5
      refine Lypb (V_move rfl rfl) rfl rfl rfl rfl e5 ?_
      refine Lypb (V_move rfl rfl) rfl rfl rfl rfl e5 ?_
      refine Lyb rfl rfl rfl rfl e5 (X_call rfl Tryz.func17 rfl rfl rfl (ACalls.mono h ?_))
      rintro v σ ⟨x122_44, rfl, h⟩
      refine Lp (V_pickT rfl (evb e5) rfl) rfl rfl ?_
      exact hk5 _ _ ⟨_, (FrLe.cons rfl (FrLe.nil _)), h⟩
    · intro h e5 hk5
      refine Ln rfl rfl rfl rfl (.inl (by rw [e5]; rfl)) ?_
      refine Ln rfl rfl rfl rfl (.inl (by rw [e5]; rfl)) ?_
      refine Ln rfl rfl rfl rfl (.inl (by rw [e5]; rfl)) ?_
      refine Lp (V_pickF rfl (evb e5) rfl) rfl rfl ?_
      exact hk5 _ _ ⟨_, (FrLe.cons rfl (FrLe.nil _)), h⟩
    rintro fr σ ⟨x123_40, hl, h⟩
    unfold j39_law05_SnapKeeps at h
    refine Lfr hl ?_
    refine Lp (V_move rfl rfl) rfl rfl ?_
    refine LsplitJ 2 x123_40 Iff.rfl h (fun fr σ => ∃ (x126_42 : Bool), FrLe [(126, .bool x126_42)] fr ∧ j41_law05_SnapKeeps B ro Q x126_42 σ) ?_ ?_ ?_
    · intro h e10 hk10
      refine Lyb rfl rfl rfl rfl e10 (X_call rfl Tryz.func10 rfl rfl rfl (ACalls.mono h ?_))
      rintro v σ ⟨x125_43, rfl, h⟩
      refine Lp (V_pickT rfl (evb e10) rfl) rfl rfl ?_
      exact hk10 _ _ ⟨_, (FrLe.cons rfl (FrLe.nil _)), h⟩
    · intro h e10 hk10
      refine Ln rfl rfl rfl rfl (.inl (by rw [e10]; rfl)) ?_
      refine Lp (V_pickF rfl (evb e10) rfl) rfl rfl ?_
      exact hk10 _ _ ⟨_, (FrLe.cons rfl (FrLe.nil _)), h⟩
    rintro fr σ ⟨x126_42, hl, h⟩
    unfold j41_law05_SnapKeeps at h
    refine Lfr hl ?_
    refine Lp (V_asg rfl rfl) rfl rfl ?_
    refine Lnil ?_
    refine thenN ?_
    refine AW.ret ?_
    refine thenR ?_
    exact bR1 Tryz.results3 rfl ⟨_, rfl, h⟩
  refine AW.skip ?_
  refine thenN ?_
  refine AW.seq ?_
  refine AW.reg ?_
  refine Lp (V_move rfl rfl) rfl rfl ?_
  refine Lp (V_move rfl rfl) rfl rfl ?_
  refine Lsplit 3 x107_37 [(5, Sl.v x26_4), (7, .pointer x31_6), (19, Sl.v x107_36), (131, .bool (x107_37 && (decide (x107_35 = 4))))] ?_ ?_ ?_
  · intro e1 hk1
    refine Lypb (V_move rfl rfl) rfl rfl rfl rfl e1 ?_
    refine Lypb (V_eql rfl rfl rfl) rfl rfl rfl rfl e1 ?_
    refine Lp (V_pickT rfl (evb e1) rfl) rfl rfl ?_
    exact hk1 _ (FrLe.cons rfl (FrLe.cons rfl (FrLe.cons rfl (FrLe.cons (by rw [e1]; rfl) (FrLe.nil _)))))
  · intro e1 hk1
    refine Ln rfl rfl rfl rfl (.inl (by rw [e1]; rfl)) ?_
    refine Ln rfl rfl rfl rfl (.inl (by rw [e1]; rfl)) ?_
    refine Lp (V_pickF rfl (evb e1) rfl) rfl rfl ?_
    exact hk1 _ (FrLe.cons rfl (FrLe.cons rfl (FrLe.cons rfl (FrLe.cons (by rw [e1]; rfl) (FrLe.nil _)))))
  intro fr hl
  refine Lfr hl ?_
  refine Lp (V_move rfl rfl) rfl rfl ?_
  refine LsplitJ 4 (x107_37 && (decide (x107_35 = 4))) (band_iff Iff.rfl decide_eq_true_iff) h (fun fr σ => ∃ (x136_46 : Bool), FrLe [(7, .pointer x31_6), (136, .bool x136_46)] fr ∧ j45_law05_SnapKeeps B ro x31_6 Q x136_46 σ) ?_ ?_ ?_
  · intro h e5 hk5
    refine Lypb (V_move rfl rfl) rfl rfl rfl rfl e5 ?_
    refine Lypb (V_move rfl rfl) rfl rfl rfl rfl e5 ?_
    refine Lyb rfl rfl rfl rfl e5 (X_call rfl Tryz.func17 rfl rfl rfl (ACalls.mono h ?_))
    rintro v σ ⟨x135_53, rfl, h⟩
    refine Lp (V_pickT rfl (evb e5) rfl) rfl rfl ?_
    exact hk5 _ _ ⟨_, (FrLe.cons rfl (FrLe.cons rfl (FrLe.nil _))), h⟩
  · intro h e5 hk5
    refine Ln rfl rfl rfl rfl (.inl (by rw [e5]; rfl)) ?_
    refine Ln rfl rfl rfl rfl (.inl (by rw [e5]; rfl)) ?_
    refine Ln rfl rfl rfl rfl (.inl (by rw [e5]; rfl)) ?_
    refine Lp (V_pickF rfl (evb e5) rfl) rfl rfl ?_
    exact hk5 _ _ ⟨_, (FrLe.cons rfl (FrLe.cons rfl (FrLe.nil _))), h⟩
  rintro fr σ ⟨x136_46, hl, h⟩
  unfold j45_law05_SnapKeeps at h
  refine Lfr hl ?_
  refine Lp (V_move rfl rfl) rfl rfl ?_
  refine LsplitJ 4 x136_46 Iff.rfl h (fun fr σ => ∃ (x141_48 : Bool), FrLe [(141, .bool x141_48)] fr ∧ j47_law05_SnapKeeps B ro Q x141_48 σ) ?_ ?_ ?_
  · intro h e10 hk10
    refine Lypb (V_move rfl rfl) rfl rfl rfl rfl e10 ?_
    refine Lyb rfl rfl rfl rfl e10 (X_call rfl Tryz.func11 rfl rfl rfl (ACalls.mono h ?_))
    rintro v σ ⟨x139_52, rfl, h⟩
    refine Lypb (V_neq rfl rfl rfl) rfl rfl rfl rfl e10 ?_
    refine Lp (V_pickT rfl (evb e10) rfl) rfl rfl ?_
    exact hk10 _ _ ⟨_, (FrLe.cons rfl (FrLe.nil _)), h⟩
  · intro h e10 hk10
    refine Ln rfl rfl rfl rfl (.inl (by rw [e10]; rfl)) ?_
    refine Ln rfl rfl rfl rfl (.inl (by rw [e10]; rfl)) ?_
    refine Ln rfl rfl rfl rfl (.inl (by rw [e10]; rfl)) ?_
    refine Lp (V_pickF rfl (evb e10) rfl) rfl rfl ?_
    exact hk10 _ _ ⟨_, (FrLe.cons rfl (FrLe.nil _)), h⟩
  rintro fr σ ⟨x141_48, hl, h⟩
  unfold j47_law05_SnapKeeps at h
  refine Lfr hl ?_
  refine Lp (V_move rfl rfl) rfl rfl ?_
  refine LsplitJ 2 x141_48 Iff.rfl h (fun fr σ => ∃ (x144_50 : Bool), FrLe [(144, .bool x144_50)] fr ∧ j49_law05_SnapKeeps B ro Q x144_50 σ) ?_ ?_ ?_
  · intro h e15 hk15
    refine Lyb rfl rfl rfl rfl e15 (X_call rfl Tryz.func10 rfl rfl rfl (ACalls.mono h ?_))
    rintro v σ ⟨x143_51, rfl, h⟩
    refine Lp (V_pickT rfl (evb e15) rfl) rfl rfl ?_
    exact hk15 _ _ ⟨_, (FrLe.cons rfl (FrLe.nil _)), h⟩
  · intro h e15 hk15
    refine Ln rfl rfl rfl rfl (.inl (by rw [e15]; rfl)) ?_
    refine Lp (V_pickF rfl (evb e15) rfl) rfl rfl ?_
    exact hk15 _ _ ⟨_, (FrLe.cons rfl (FrLe.nil _)), h⟩
  rintro fr σ ⟨x144_50, hl, h⟩
  unfold j49_law05_SnapKeeps at h
  refine Lfr hl ?_
  refine Lp (V_asg rfl rfl) rfl rfl ?_
  refine Lnil ?_
  refine thenN ?_
  refine AW.ret ?_
  exact bR1 Tryz.results3 rfl ⟨_, rfl, h⟩

def j9_law05_awake (B : World) (ro : AH) (Q : Bool → AH → Prop) (x40_10 : Bool) (σ : AH) : Prop :=
 Q x40_10 σ

def j3_law05_awake (B : World) (ro : AH) (x8_1 : Option Addr) (Q : Bool → AH → Prop) (x19_4 : Bool) (σ : AH) : Prop :=
 if x19_4 = true then
  Q false σ
 else
 c_snap_Load B ro x8_1 (⟨#[115]⟩ : ByteArray) σ fun x22_5 x22_6 x22_7 x22_8 σ =>
 if ((x22_8 = 0) ∧ (x22_7 = true)) ∧ (x22_5 = 1) then
  awp Tryz.prog ro (convert 22 9 (Sl.v x22_6)) (fun v σ =>
   (∃ (x38_11 : ByteArray), v = .string x38_11 ∧
    j9_law05_awake B ro Q (decide (x38_11 = (⟨#[111, 110, 101]⟩ : ByteArray))) σ)) σ
 else
 j9_law05_awake B ro Q false σ

def f_law05_awake (B : World) (ro : AH) (σ : AH) (Q : Bool → AH → Prop) : Prop :=
 c_disk_New B ro 999 σ fun x8_1 x8_2 σ =>
 if x8_1 = none then
  j3_law05_awake B ro x8_1 Q true σ
 else
 nw ro σ (.cells #[.int .u8 111, .int .u8 110, .int .u8 101] 5) fun x15_12 σ =>
 awp Tryz.prog ro (convert 22 22 (Sl.v (⟨some ⟨x15_12, 0, none⟩, 3, 3⟩ : Sl))) (fun v σ =>
  (∃ (x16_13 : Sl), v = Sl.v x16_13 ∧
   c_snap_Save B ro x8_1 (⟨#[115]⟩ : ByteArray) 1 x16_13 σ fun x17_14 σ =>
   j3_law05_awake B ro x8_1 Q (!(decide (x17_14 = 0))) σ)) σ

set_option maxRecDepth 100000 in
set_option maxHeartbeats 4000000 in
theorem law05_awake_ok {B : World} {ro : AH} {σ : AH} {Q : Bool → AH → Prop} (h : Sep ro σ → f_law05_awake B ro σ Q) : c_law05_awake B ro σ Q := by
  refine ACalls.of_sep fun hsep => ?_
  replace h := h hsep
  refine ACalls.of_body (args := []) Tryz.func10 rfl (by rw [Tryz.ntmps10]; simp) ?_
  rw [Tryz.ntmps10]
  unfold f_law05_awake at h
  refine AW.seq ?_
  refine AW.reg ?_
  refine Lp (V_asg rfl rfl) rfl rfl ?_
  refine Lnil ?_
  refine thenN ?_
  refine AW.seq ?_
  refine AW.reg ?_
  refine Ls rfl rfl (X_call rfl Tryz.func9 rfl rfl rfl (ACalls.mono h ?_))
  rintro v σ ⟨x8_1, x8_2, rfl, h⟩
  refine Lp (V_move rfl rfl) rfl rfl ?_
  refine Lp (V_ext rfl rfl rfl) rfl rfl ?_
  refine Lp (V_ext rfl rfl rfl) rfl rfl ?_
  refine Lp (V_asg rfl rfl) rfl rfl ?_
  refine Lp (V_asg rfl rfl) rfl rfl ?_
  refine Lnil ?_
  refine thenN ?_
  refine AW.seq ?_
  refine AW.seq ?_
  refine AW.reg ?_
  refine Lp (V_move rfl rfl) rfl rfl ?_
  refine Lp (V_eqP rfl Tryz.underlying26 rfl rfl) rfl rfl ?_
  refine Lp (V_move rfl rfl) rfl rfl ?_
  refine LsplitJ 6 x8_1.isNone isNone_iff h (fun fr σ => ∃ (x19_4 : Bool), FrLe [(1, .pointer x8_1), (19, .bool x19_4)] fr ∧ j3_law05_awake B ro x8_1 Q x19_4 σ) ?_ ?_ ?_
  · intro h e2 hk2
    refine Ln rfl rfl rfl rfl (.inl (by rw [e2]; rfl)) ?_
    refine Ln rfl rfl rfl rfl (.inl (by rw [e2]; rfl)) ?_
    refine Ln rfl rfl rfl rfl (.inl (by rw [e2]; rfl)) ?_
    refine Ln rfl rfl rfl rfl (.inl (by rw [e2]; rfl)) ?_
    refine Ln rfl rfl rfl rfl (.inl (by rw [e2]; rfl)) ?_
    refine Lp (V_pickT rfl (evb e2) rfl) rfl rfl ?_
    exact hk2 _ _ ⟨_, (FrLe.cons rfl (FrLe.cons rfl (FrLe.nil _))), h⟩
  · intro h e2 hk2
    refine Lypb (V_move rfl rfl) rfl rfl rfl rfl e2 ?_
    refine Lyb rfl rfl rfl rfl e2 (X_new (A_bsl (vs := [(0, .int .u8 111), (1, .int .u8 110), (2, .int .u8 101)]) (cs := #[.int .u8 111, .int .u8 110, .int .u8 101]) rfl Tryz.underlying22 ty5 (by decide) rfl rfl) fun x15_12 g1 g2 => ?_)
    replace h := h x15_12 g1 g2
    refine Lyb rfl rfl rfl rfl e2 (X_cvt rfl rfl (awp_mono _ h ?_))
    rintro v σ ⟨x16_13, rfl, h⟩
    refine Lyb rfl rfl rfl rfl e2 (X_call rfl Tryz.func11 rfl rfl rfl (ACalls.mono h ?_))
    rintro v σ ⟨x17_14, rfl, h⟩
    refine Lypb (V_neq rfl rfl rfl) rfl rfl rfl rfl e2 ?_
    refine Lp (V_pickF rfl (evb e2) rfl) rfl rfl ?_
    exact hk2 _ _ ⟨_, (FrLe.cons rfl (FrLe.cons rfl (FrLe.nil _))), h⟩
  rintro fr σ ⟨x19_4, hl, h⟩
  unfold j3_law05_awake at h
  refine Lfr hl ?_
  refine Lnil ?_
  refine thenN ?_
  refine AW.iff rfl Iff.rfl h (fun h => ?_) (fun h => ?_)
  · refine AW.seq ?_
    refine AW.reg ?_
    refine Lp (V_asg rfl rfl) rfl rfl ?_
    refine Lnil ?_
    refine thenN ?_
    refine AW.ret ?_
    refine thenR ?_
    exact bR1 Tryz.results10 rfl ⟨_, rfl, h⟩
  refine AW.skip ?_
  refine thenN ?_
  refine AW.seq ?_
  refine AW.reg ?_
  refine Lp (V_move rfl rfl) rfl rfl ?_
  refine Ls rfl rfl (X_call rfl Tryz.func13 rfl rfl rfl (ACalls.mono h ?_))
  rintro v σ ⟨x22_5, x22_6, x22_7, x22_8, rfl, h⟩
  refine Lp (V_move rfl rfl) rfl rfl ?_
  refine Lp (V_ext rfl rfl rfl) rfl rfl ?_
  refine Lp (V_ext rfl rfl rfl) rfl rfl ?_
  refine Lp (V_ext rfl rfl rfl) rfl rfl ?_
  refine Lp (V_ext rfl rfl rfl) rfl rfl ?_
  refine Lp (V_asg rfl rfl) rfl rfl ?_
  refine Lp (V_asg rfl rfl) rfl rfl ?_
  refine Lp (V_asg rfl rfl) rfl rfl ?_
  refine Lp (V_asg rfl rfl) rfl rfl ?_
  refine Lnil ?_
  refine thenN ?_
  refine AW.seq ?_
  refine AW.reg ?_
  refine Lp (V_move rfl rfl) rfl rfl ?_
  refine Lp (V_eql rfl rfl rfl) rfl rfl ?_
  refine Lp (V_move rfl rfl) rfl rfl ?_
  refine Lsplit 2 (decide (x22_8 = 0)) [(3, .int .i64 x22_5), (4, Sl.v x22_6), (31, .bool ((decide (x22_8 = 0)) && x22_7))] ?_ ?_ ?_
  · intro e2 hk2
    refine Lypb (V_move rfl rfl) rfl rfl rfl rfl e2 ?_
    refine Lp (V_pickT rfl (evb e2) rfl) rfl rfl ?_
    exact hk2 _ (FrLe.cons rfl (FrLe.cons rfl (FrLe.cons (by rw [e2]; rfl) (FrLe.nil _))))
  · intro e2 hk2
    refine Ln rfl rfl rfl rfl (.inl (by rw [e2]; rfl)) ?_
    refine Lp (V_pickF rfl (evb e2) rfl) rfl rfl ?_
    exact hk2 _ (FrLe.cons rfl (FrLe.cons rfl (FrLe.cons (by rw [e2]; rfl) (FrLe.nil _))))
  intro fr hl
  refine Lfr hl ?_
  refine Lp (V_move rfl rfl) rfl rfl ?_
  refine Lsplit 3 ((decide (x22_8 = 0)) && x22_7) [(4, Sl.v x22_6), (35, .bool (((decide (x22_8 = 0)) && x22_7) && (decide (x22_5 = 1))))] ?_ ?_ ?_
  · intro e5 hk5
    refine Lypb (V_move rfl rfl) rfl rfl rfl rfl e5 ?_
    refine Lypb (V_eql rfl rfl rfl) rfl rfl rfl rfl e5 ?_
    refine Lp (V_pickT rfl (evb e5) rfl) rfl rfl ?_
    exact hk5 _ (FrLe.cons rfl (FrLe.cons (by rw [e5]; rfl) (FrLe.nil _)))
  · intro e5 hk5
    refine Ln rfl rfl rfl rfl (.inl (by rw [e5]; rfl)) ?_
    refine Ln rfl rfl rfl rfl (.inl (by rw [e5]; rfl)) ?_
    refine Lp (V_pickF rfl (evb e5) rfl) rfl rfl ?_
    exact hk5 _ (FrLe.cons rfl (FrLe.cons (by rw [e5]; rfl) (FrLe.nil _)))
  intro fr hl
  refine Lfr hl ?_
  refine Lp (V_move rfl rfl) rfl rfl ?_
  refine LsplitJ 4 (((decide (x22_8 = 0)) && x22_7) && (decide (x22_5 = 1))) (band_iff (band_iff decide_eq_true_iff Iff.rfl) decide_eq_true_iff) h (fun fr σ => ∃ (x40_10 : Bool), FrLe [(40, .bool x40_10)] fr ∧ j9_law05_awake B ro Q x40_10 σ) ?_ ?_ ?_
  · intro h e9 hk9
    refine Lypb (V_move rfl rfl) rfl rfl rfl rfl e9 ?_
    refine Lyb rfl rfl rfl rfl e9 (X_cvt rfl rfl (awp_mono _ h ?_))
    rintro v σ ⟨x38_11, rfl, h⟩
    refine Lypb (V_eqlS rfl rfl rfl) rfl rfl rfl rfl e9 ?_
    refine Lp (V_pickT rfl (evb e9) rfl) rfl rfl ?_
    exact hk9 _ _ ⟨_, (FrLe.cons rfl (FrLe.nil _)), h⟩
  · intro h e9 hk9
    refine Ln rfl rfl rfl rfl (.inl (by rw [e9]; rfl)) ?_
    refine Ln rfl rfl rfl rfl (.inl (by rw [e9]; rfl)) ?_
    refine Ln rfl rfl rfl rfl (.inl (by rw [e9]; rfl)) ?_
    refine Lp (V_pickF rfl (evb e9) rfl) rfl rfl ?_
    exact hk9 _ _ ⟨_, (FrLe.cons rfl (FrLe.nil _)), h⟩
  rintro fr σ ⟨x40_10, hl, h⟩
  unfold j9_law05_awake at h
  refine Lfr hl ?_
  refine Lp (V_asg rfl rfl) rfl rfl ?_
  refine Lnil ?_
  refine thenN ?_
  refine AW.ret ?_
  exact bR1 Tryz.results10 rfl ⟨_, rfl, h⟩

end Go.Proofs.YtfobjidchipdaaaGreatDoor.G

/- SnapKeeps, the walk. -/
namespace Go.Proofs.YtfobjidchipdaaaGreatDoor.Zt
open Go Go.Proofs.YtfobjidchipdaaaGreatDoor.SL Go.Proofs.YtfobjidchipdaaaGreatDoor.G Go.Proofs.YtfobjidchipdaaaGreatDoor.Pa
set_option maxRecDepth 100000
variable {B : World} {ro σ σ' : AH} {tag tag' : Nat → Nat}
theorem nw_lit {cs : Array Value} {K : Value → AH → Prop} (hs : SL.Sep ro σ) (hK : ∀ s tag' σ', (∀ R, Step R ro tag σ tag' σ') → Held tag' σ' 6 s cs.toList → K (Sl.v s) σ') :
    nw ro σ (.cells cs 5) fun x σ => awp Tryz.prog ro (convert 22 22 (Sl.v ⟨some ⟨x, 0, none⟩, cs.size, cs.size⟩)) K σ := by
  intro b hro hb
  unfold convert
  simp only [bind_def]
  rw [awp_underlying u30, awp_underlying u30]
  simp only [Sl.v]
  rw [awp_underlying u5'']
  show awp Tryz.prog ro (Sem.bind (markStringish ⟨b, 0, none⟩) fun _ => Sem.pure (Value.slice (some ⟨b, 0, none⟩) cs.size cs.size)) K (upd σ b _)
  unfold markStringish
  show ∃ o, rd ro (upd σ b _) b = some o ∧ _
  refine ⟨_, by unfold rd; rw [hro]; exact upd_same _ _ _, ?_⟩
  show (1 : Nat) ≠ 0 ∧ ∃ o, upd σ b _ b = some o ∧ _
  refine ⟨by decide, _, upd_same _ _ _, ?_⟩
  rw [upd_upd]
  refine hK ⟨some ⟨b, 0, none⟩, cs.size, cs.size⟩ (setTag tag b 6) _ (fun _ => Step.fresh hs hro hb) ⟨by simp, .inr ⟨_, _, rfl, by simp [setTag], upd_same _ _ _, fun i v hv => ?_⟩⟩
  rw [add_add, Nat.zero_add]
  show cs[i]? = some v
  rw [← hv]; simp
end Go.Proofs.YtfobjidchipdaaaGreatDoor.Zt
namespace Go.Proofs.YtfobjidchipdaaaGreatDoor.Sn
open Go Go.Proofs.YtfobjidchipdaaaGreatDoor.SL Go.Proofs.YtfobjidchipdaaaGreatDoor.G Go.Proofs.YtfobjidchipdaaaGreatDoor.Pa Go.Proofs.YtfobjidchipdaaaGreatDoor.Wi Go.Proofs.YtfobjidchipdaaaGreatDoor.Dk
set_option linter.unusedSimpArgs false
set_option linter.unusedVariables false
set_option maxRecDepth 100000
variable {B : World} {ro σ σ' : AH} {tag tag' : Nat → Nat}
theorem crash_snap {k : Nat} {d : Str} {fs fs' : Fs} (h : SnapFs k d fs) (c : CrashR fs fs') : SnapFs k d fs' := by
  have full : ∀ n b, fs.lookup n = some ⟨b, b.length⟩ → fs'.lookup n = some ⟨b, b.length⟩ := fun n b e => by
    obtain ⟨m, h1, h2, h3⟩ := c.file n _ e
    simp only at h1 h2 h3
    have : m = b.length := by omega
    subst this
    rw [List.take_length] at h3; exact h3
  refine ⟨h.k10, h.dlen, full _ _ h.mn, full _ _ h.data, fun p hp => ?_, ?_⟩
  · have hm : p.1 ∈ fs'.map (·.1) := List.mem_map.2 ⟨p, hp, rfl⟩
    rw [c.keys] at hm
    obtain ⟨q, hq, e⟩ := List.mem_map.1 hm
    rw [← e]; exact h.keys q hq
  · have := congrArg List.length c.keys
    rw [List.length_map, List.length_map] at this
    rw [this]; exact h.len
theorem SnapFs.kb {k : Nat} {d : Str} {ps : Ps} (h : SnapFs k d (pfs ps)) (hn : (ps.map (·.1)).Nodup) : (∀ p ∈ ps, p.1.length ≤ 128) ∧ ps.length ≤ 4398046511104 ∧ ∀ p ∈ ps, p.2.2.safe ≤ p.2.2.b.length ∧ p.2.2.b.length < 4611686018427387904 := by
  refine ⟨fun p hp => ?_, ?_, fun p hp => ?_⟩
  · rcases h.keys _ (List.mem_map.2 ⟨p, hp, rfl⟩) with e | e <;> simp only at e <;> rw [e] <;> first | decide | exact (by decide : 4 ≤ 128)
  · have := h.len; unfold pfs at this; rw [List.length_map] at this; omega
  · have hb := h.blen hn p hp
    have hl := lookup_mem hn (k := p.1) (x := p.2) hp
    obtain ⟨⟨b, e1⟩, c, e2⟩ := h.lookups
    rcases h.keys _ (List.mem_map.2 ⟨p, hp, rfl⟩) with e | e
    · simp only at e; rw [e] at hl; rw [hl] at e1; rw [Option.some.inj e1] at hb ⊢
      exact ⟨Nat.le_refl _, by omega⟩
    · simp only at e; rw [e] at hl; rw [hl] at e2; rw [Option.some.inj e2] at hb ⊢
      exact ⟨Nat.le_refl _, by omega⟩
theorem crash_load {T M : Nat} {cap : Int} {ps : Ps} {k : Nat} {d : Str} {s3 : Sl} {cs : List Int} {Q : Int → Sl → Bool → Int → AH → Prop} (g : Glob ro) (h : Disk tag σ 10 T M cap ps) (hF : SnapFs k d (pfs ps)) (h3 : SL.Read ro (fun _ => none) s3 (cs.map Zt.vI)) (hl : cs.length ≤ 17592186044416)
    (hQ : ∀ s' ps' tag' σ', StepS [0, 7, 8, 9, 10, 31, 51] ro tag σ tag' σ' → Disk tag' σ' 10 T M cap ps' → SnapFs k d (pfs ps') → Row tag' σ' 6 5 s' (d.map vU) → Q (k : Nat) s' true 0 σ') :
    c_ref01_CopyInts B ro s3 σ fun x σ => c_disk_Disk_Crash B ro (some ⟨T, 0, none⟩) x σ fun σ => c_snap_Load B ro (some ⟨T, 0, none⟩) (S [115]) σ Q := by
  refine Zt.copyInts_ok (tag := tag) 51 h3 hl fun b tag1 σ1 st1 r1 => ?_
  have h1 := h.keep st1 (by simp)
  obtain ⟨k1, k2, k3⟩ := hF.kb h.keys
  refine crash_ok (q := 0) (cs := cs) h1 (by decide) (by decide) (by decide) (Nat.le_refl _) (fun tag' σ' st => (r1.keepS st (by decide)).read st.sep) k1 k2 k3 fun ps' tag2 σ2 st2 h2 hcr => ?_
  have hF2 := crash_snap hF hcr
  refine load_ok (o := some (k, d)) g h2 (by decide) (by decide) hF2 (fun e => by cases e) fun k' d' e s' tag3 σ3 st3 r3 => ?_
  cases e
  exact hQ s' ps' tag3 σ3 ((st1.s (by decide)).trans ((st2.mono (by decide)).trans (st3.mono (by decide)))) (DiskAt.keepS h2 st3 (by decide)) hF2 r3
theorem awake_ok (g : Glob ro) : c_law05_awake B ro σ fun r _ => r = true := by
  refine law05_awake_ok fun hs => ?_
  unfold f_law05_awake
  refine new_ok (tag := fun _ => 0) (r := 10) (fun h => absurd h (by decide)) fun _ _ T M tag1 σ1 st1 h1 => ?_
  rw [if_neg (by simp)]
  have hs1 := (st1 []).sep
  refine Zt.nw_lit (tag := tag1) (cs := #[.int .u8 111, .int .u8 110, .int .u8 101]) hs1 fun s tag2 σ2 st2 hh => ?_
  refine ⟨s, rfl, ?_⟩
  refine save_ok (o := none) (k := 1) (d := [111, 110, 101]) g (h1.keep (st2 []) (by simp)) (by decide) (by decide) rfl (by decide) (.inr hh) (by decide) ?_ ?_
  · rintro e _ (h | ⟨k0, d0, h, _⟩ | h)
    · exact absurd h (by decide)
    · cases h
    · exact absurd h (by decide)
  · intro _ _ ps' tag3 σ3 st3 h3 hF
    unfold j3_law05_awake
    rw [if_neg (by simp)]
    refine load_ok (o := some (1, [111, 110, 101])) g h3 (by decide) (by decide) hF (fun e => by cases e) fun k' d' e s' tag4 σ4 st4 r4 => ?_
    cases e
    rw [if_pos ⟨⟨rfl, rfl⟩, rfl⟩]
    refine Zt.awp_b2s (r4.read st4.sep) ⟨_, rfl, ?_⟩
    unfold j9_law05_awake
    exact decide_eq_true rfl
theorem keeps_ok (g : Glob ro) {c : Int} {s1 s2 s3 : Sl} {d1 d2 : Str} {cs : List Int} (h1 : SL.Read ro (fun _ => none) s1 (d1.map vU)) (h2 : SL.Read ro (fun _ => none) s2 (d2.map vU)) (h3 : SL.Read ro (fun _ => none) s3 (cs.map Zt.vI)) (l1 : d1.length ≤ 140737488355328) (l2 : d2.length ≤ 140737488355328) (l3 : cs.length ≤ 17592186044416) :
    c_law05_SnapKeeps B ro c s1 s2 s3 σ fun r _ => r = true := by
  refine law05_SnapKeeps_ok fun hs => ?_
  unfold f_law05_SnapKeeps
  refine nw_cells (tag := fun _ => 0) 50 hs fun x tag1 σ1 st1 r1 => ?_
  obtain ⟨p, hp, hg⟩ := r1.ptr (st1 []).sep (by simp)
  cases hp
  refine ⟨c, hg 0 _ rfl, s1, hg 1 _ rfl, s2, hg 2 _ rfl, s3, hg 3 _ rfl, ?_⟩
  refine new_ok (tag := tag1) (r := 10) (fun h => ?_) fun c0 c1 T M tag2 σ2 st2 hd2 => ?_
  · rw [if_pos (.inl rfl), if_pos h]
    exact c_law05_awake_mono (awake_ok g) fun r σ _ e => e
  rw [if_neg (by simp)]
  refine Zt.copy_ok (tag := tag2) (.inl h1) l1 fun y tag3 σ3 st3 r3 => ?_
  refine save_ok (o := none) (k := 3) (d := d1) g (hd2.keep (st3 []) (by simp)) c0 c1 rfl (by decide) (.inr r3.held) (by omega) ?_ ?_
  · intro e he _ ps' tag4 σ4 st4 hd4 hS
    rw [if_pos he]
    refine load_ok (o := none) g hd4 (by decide) (by decide) hS (fun _ tag5 σ5 st5 => ?_) fun k' d' e => by cases e
    have hd5 : Disk tag5 σ5 10 T M c ps' := DiskAt.keepS hd4 st5 (by decide)
    rw [if_pos (by simp)]
    refine ⟨_, rfl, _, (hd5.ptrs st5.sep).1, ?_⟩
    have e0 : pfs ps' = [] := hS
    refine used_ok (tag := tag5) hd5.map hd5.keys hd5.nodes (by decide) (by decide) st5.sep (by rw [e0]; decide) fun tag6 σ6 st6 => ?_
    rw [e0]
    unfold j17_law05_SnapKeeps
    rw [if_pos (by decide)]
    exact c_law05_awake_mono (awake_ok g) fun r σ _ e => e
  · intro _ _ ps4 tag4 σ4 st4 hd4 hF4
    rw [if_neg (by simp)]
    refine crash_load g hd4 hF4 h3 l3 fun s5 ps5 tag5 σ5 st5 hd5 hF5 r5 => ?_
    rw [if_neg (by simp)]
    refine Zt.same_ok (r5.read st5.sep) h1.keep ?_
    rw [decide_eq_true rfl]
    unfold j30_law05_SnapKeeps
    rw [if_neg (by simp)]
    refine Zt.copy_ok (tag := tag5) (.inl h2) l2 fun y tag6 σ6 st6 r6 => ?_
    refine save_ok (o := some (3, d1)) (k := 4) (d := d2) g (hd5.keep (st6 []) (by simp)) c0 c1 hF5 (by decide) (.inr r6.held) (by omega) ?_ ?_
    · intro e he _ ps7 tag7 σ7 st7 hd7 hS7
      refine crash_load g hd7 hS7 h3 l3 fun s8 ps8 tag8 σ8 st8 hd8 hF8 r8 => ?_
      rw [if_pos he, if_pos ⟨rfl, rfl⟩]
      refine Zt.same_ok (r8.read st8.sep) h1.keep ?_
      rw [decide_eq_true rfl]
      unfold j39_law05_SnapKeeps
      rw [if_pos rfl]
      exact c_law05_awake_mono (awake_ok g) fun r σ _ e => e
    · intro _ _ ps7 tag7 σ7 st7 hd7 hS7
      refine crash_load g hd7 hS7 h3 l3 fun s8 ps8 tag8 σ8 st8 hd8 hF8 r8 => ?_
      rw [if_neg (by simp), if_pos ⟨rfl, rfl⟩]
      refine Zt.same_ok (r8.read st8.sep) h2.keep ?_
      rw [decide_eq_true rfl]
      unfold j45_law05_SnapKeeps
      rw [if_pos rfl]
      refine save_ok (o := some (4, d2)) (k := 4) (d := []) g hd8 c0 c1 hF8 (by decide) (.inr (Held.nil 6)) (by decide) ?_ ?_
      · intro e he _ ps9 tag9 σ9 st9 hd9 hS9
        unfold j47_law05_SnapKeeps
        rw [if_pos (by simpa using he)]
        exact c_law05_awake_mono (awake_ok g) fun r σ _ e => e
      · intro _ hlt
        exact absurd (hlt 4 d2 rfl) (by decide)
end Go.Proofs.YtfobjidchipdaaaGreatDoor.Sn
