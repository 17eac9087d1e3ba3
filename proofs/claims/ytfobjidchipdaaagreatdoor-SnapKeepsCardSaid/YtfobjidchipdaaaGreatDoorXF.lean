/- DkG, WiA, WsA, BuA, GWire, WiB, WiC, WsB -/
import Derived.Test.YtfobjidchipdaaaGreatDoorXE
/- Disks, the walk: a crash. -/
namespace Go.Proofs.YtfobjidchipdaaaGreatDoor.Dk
open Go Go.Proofs.YtfobjidchipdaaaGreatDoor.SL Go.Proofs.YtfobjidchipdaaaGreatDoor.G Go.Proofs.YtfobjidchipdaaaGreatDoor.Pa
set_option linter.unusedSimpArgs false
set_option linter.unusedVariables false
set_option maxRecDepth 100000
variable {B : World} {ro σ σ' : AH} {tag tag' : Nat → Nat}
/-- what a crash may leave -/
structure CrashR (fs fs' : Fs) : Prop where
  keys : fs'.map (·.1) = fs.map (·.1)
  file : ∀ k f, fs.lookup k = some f → ∃ m, f.safe ≤ m ∧ m ≤ f.b.length ∧ fs'.lookup k = some ⟨f.b.take m, m⟩
theorem read_tail {s : Sl} {v : Value} {l : List Value} (h : SL.Read ro σ s (v :: l)) (hc : s.len ≤ s.cap) : SL.Read ro σ ⟨cutA s.a 1 s.cap 1, s.len - 1, s.cap - 1⟩ l := by
  obtain ⟨h1, h2, h3⟩ := h
  refine ⟨by simp only; rw [h1]; simp, fun ha => ?_, fun p hp i w hw => ?_⟩
  · unfold cutA at ha
    have hn : s.a ≠ none := fun e => by have := h2 e; cases this
    simp only at ha
    split at ha
    · exact absurd ha hn
    · exact absurd (Option.map_eq_none_iff.1 ha) hn
  · unfold cutA at hp
    simp only at hp
    split at hp
    · rename_i e
      have : l = [] := by have : s.len = (v :: l).length := h1; simp at this; exact List.eq_nil_of_length_eq_zero (by omega)
      subst this; cases hw
    · obtain ⟨p', hp', rfl⟩ := Option.map_eq_some_iff.1 hp
      have := h3 p' hp' (i + 1) w (by simpa using hw)
      have e : (p'.add (1 * 1)).add i = p'.add (i + 1) := by
        obtain ⟨b, o, sp⟩ := p'
        rw [show (⟨b, o, sp⟩ : Addr).add (1 * 1) = ⟨b, o + 1, none⟩ from rfl, add_add, show (⟨b, o, sp⟩ : Addr).add (i + 1) = ⟨b, o + (i + 1), none⟩ from rfl, Nat.add_assoc, Nat.add_comm 1 i]
      rw [e]; exact this
theorem crash_ok {r T M q : Nat} {cap : Int} {ps : Ps} {cs : List Int} {s : Sl} {Q : AH → Prop} (h : Disk tag σ r T M cap ps) (hr : r < 64) (hr0 : r ≠ 0) (hr4 : r ≠ 4) (hcap : s.len ≤ s.cap) (hcs : ∀ tag' σ', StepS [r] ro tag σ tag' σ' → SL.Read ro σ' s (cs.map vI))
    (hl : ∀ p ∈ ps, p.1.length ≤ 128) (hn : ps.length ≤ 4398046511104) (hsf : ∀ p ∈ ps, p.2.2.safe ≤ p.2.2.b.length ∧ p.2.2.b.length < 4611686018427387904)
    (hQ : ∀ ps' tag' σ', StepS [r] ro tag σ tag' σ' → Disk tag' σ' r T M cap ps' → CrashR (pfs ps) (pfs ps') → Q σ') : c_disk_Disk_Crash B ro (some ⟨T, 0, none⟩) s σ Q := by
  refine disk_Disk_Crash_ok fun hs => ?_
  unfold f_disk_Disk_Crash
  refine ⟨_, rfl, _, (h.ptrs hs).1, ?_⟩
  refine files_ok (q := 4) h.map h.keys hl hn fun ls tag1 σ1 ks st1 hp hso r1 => ?_
  have h1 := h.keep (st1 []) (by simp)
  have hln : ls.len = ks.length := by rw [r1.len, List.length_map]
  have hknd : ks.Nodup := hp.nodup_iff.2 h.keys
  have hkl : ks.length = ps.length := by rw [hp.length_eq, List.length_map]
  suffices ∀ (m j : Nat) (cs' : List Int) (s' : Sl) (ps' : Ps) (σ2 : AH), j + m = ks.length → s'.len ≤ s'.cap → (∀ σ', SL.Read ro σ' s (cs.map vI) → SL.Read ro σ' s' (cs'.map vI)) → Disk tag1 σ2 r T M cap ps' → StepS [r] ro tag1 σ1 tag1 σ2 →
      ps'.map (·.1) = ps.map (·.1) → (∀ k ∈ ks.drop j, ps'.lookup k = ps.lookup k) → (∀ k ∈ ks.take j, ∀ b f, ps.lookup k = some (b, f) → ∃ m, f.safe ≤ m ∧ m ≤ f.b.length ∧ ps'.lookup k = some (b, ⟨f.b.take m, m⟩)) →
      lfpD (l4_disk_Disk_Crash B ro (some ⟨T, 0, none⟩) ls Q) (s', (j : Int)) σ2 from
    this _ 0 cs s ps σ1 (Nat.zero_add _) hcap (fun _ x => x) h1 (StepS.refl (st1 []).sep) rfl (fun _ _ => rfl) (fun k hk => by cases hk)
  intro m
  induction m with
  | zero =>
    intro j cs' s' ps' σ2 hj hc' hrd hd st2 hkeys hrest hdone
    refine lfpD.intro ?_
    unfold l4_disk_Disk_Crash
    simp only
    rw [if_neg (by omega)]
    rw [List.take_of_length_le (by omega)] at hdone
    refine hQ ps' tag1 σ2 (((st1 []).s (by simp)).trans st2) hd ⟨by rw [pfs_keys, pfs_keys, hkeys], fun k f hf => ?_⟩
    rw [pfs_lookup] at hf
    obtain ⟨⟨b, f'⟩, hb, rfl⟩ := Option.map_eq_some_iff.1 hf
    obtain ⟨m, e1, e2, e3⟩ := hdone k (hp.mem_iff.2 (List.mem_map.2 ⟨_, mem_lookup hb, rfl⟩)) b f' hb
    exact ⟨m, e1, e2, by rw [pfs_lookup, e3]; rfl⟩
  | succ m ih =>
    intro j cs' s' ps' σ2 hj hc' hrd hd st2 hkeys hrest hdone
    have hjl : j < ks.length := by omega
    have hs2 := st2.sep
    have edrop : ks.drop j = ks[j] :: ks.drop (j + 1) := List.drop_eq_getElem_cons hjl
    have etake : ks.take (j + 1) = ks.take j ++ [ks[j]] := by rw [List.take_add_one, List.getElem?_eq_getElem hjl]; rfl
    have hnd2 : ks[j] ∉ ks.drop (j + 1) := by
      have : (ks.drop j).Nodup := List.Nodup.sublist (List.drop_sublist _ _) hknd
      rw [edrop, List.nodup_cons] at this; exact this.1
    have hnd3 : ks[j] ∉ ks.take j := by
      have : (ks.take (j + 1)).Nodup := List.Nodup.sublist (List.take_sublist _ _) hknd
      rw [etake, List.nodup_append] at this
      exact fun hm => this.2.2 _ hm _ (by simp) rfl
    obtain ⟨p, hp', _, hg⟩ := Row.sget (r1.keepS st2 (by simp; omega)) hs2 hjl
    have hk := hrest ks[j] (by rw [edrop]; exact List.mem_cons_self)
    have hin : ks[j] ∈ ps.map (·.1) := hp.mem_iff.1 (List.getElem_mem hjl)
    have hgj := hg j hjl
    generalize ks[j] = k at hk hin hgj edrop etake hnd2 hnd3
    obtain ⟨b, f, hb⟩ : ∃ b f, ps.lookup k = some (b, f) := by
      cases e : ps.lookup k with
      | none => exact absurd hin (lookup_key.1 e)
      | some x => exact ⟨x.1, x.2, rfl⟩
    rw [hb] at hk
    have hsz := hsf _ (mem_lookup hb)
    simp only at hsz
    refine lfpD.intro ?_
    unfold l4_disk_Disk_Crash
    simp only
    rw [if_pos (by omega)]
    refine ⟨p, hp', by omega, by omega, S k, by rw [Int.toNat_natCast]; exact hgj, _, rfl, _, (hd.ptrs hs2).1, ?_⟩
    refine lk hd.map hs2 ?_
    rw [hk]
    obtain ⟨fs, hc, hbt⟩ := (show FileAt 104 tag1 σ2 r b f from hd.nodes _ (mem_lookup hk))
    obtain ⟨p2, hp2, hg2⟩ := hc.ptr hs2 (by simp)
    cases hp2
    have hfl : fs.len = f.b.length := by rw [hbt.len, List.length_map]
    refine ⟨_, rfl, _, rfl, _, rfl, fs, hg2 0 _ rfl, f.safe, hg2 1 _ rfl, ?_⟩
    rw [SL.w64_eq (by omega) (by omega), hfl]
    -- the file cut behind
    have next : ∀ (m' : Nat) (cs2 : List Int) (s2 : Sl) (ps2 : Ps) (σ3 : AH), f.safe ≤ m' → m' ≤ f.b.length → s2.len ≤ s2.cap → (∀ σ', SL.Read ro σ' s (cs.map vI) → SL.Read ro σ' s2 (cs2.map vI)) → Disk tag1 σ3 r T M cap ps2 → StepS [r] ro tag1 σ1 tag1 σ3 → ps2.map (·.1) = ps'.map (·.1) → (∀ n, ps2.lookup n = if n = k then some (b, ⟨f.b.take m', m'⟩) else ps'.lookup n) →
        j7_disk_Disk_Crash B ro (some ⟨T, 0, none⟩) ls (j : Int) Q (lfpD (l4_disk_Disk_Crash B ro (some ⟨T, 0, none⟩) ls Q)) s2 σ3 := by
      intro m' cs2 s2 ps2 σ3 hm1 hm2 hc2 hrd2 hd2 st3 hk2 hlk2
      unfold j7_disk_Disk_Crash
      rw [Pa.inc j (by omega)]
      refine ih (j + 1) cs2 s2 ps2 σ3 (by omega) hc2 hrd2 hd2 st3 (hk2.trans hkeys) (fun n hn => ?_) (fun n hn b' f' hf' => ?_)
      · rw [hlk2, if_neg (fun e => hnd2 (by rw [← e]; exact hn))]
        exact hrest n (by rw [edrop]; exact List.mem_cons_of_mem _ hn)
      · rw [etake] at hn
        rcases List.mem_append.1 hn with h | h
        · obtain ⟨m2, e1, e2, e3⟩ := hdone n h b' f' hf'
          refine ⟨m2, e1, e2, ?_⟩
          rw [hlk2, if_neg (fun e => hnd3 (by rw [← e]; exact h))]; exact e3
        · obtain rfl := List.mem_singleton.1 h
          rw [hb] at hf'; cases hf'
          exact ⟨m', hm1, hm2, by rw [hlk2, if_pos rfl]⟩
    by_cases c0 : (f.b.length : Int) - (f.safe : Int) = 0
    · rw [if_pos c0]
      refine next f.safe cs' s' ps' σ2 (Nat.le_refl _) hsz.1 hc' hrd hd st2 rfl fun n => ?_
      split
      · rename_i e; subst e
        rw [hk, List.take_of_length_le (by omega)]
      · rfl
    · rw [if_neg c0]
      -- what stays
      have cut : ∀ (keep : Nat) (cs2 : List Int) (s2 : Sl), f.safe + keep ≤ f.b.length → s2.len ≤ s2.cap → (∀ σ', SL.Read ro σ' s (cs.map vI) → SL.Read ro σ' s2 (cs2.map vI)) → j18_disk_Disk_Crash B ro (some ⟨T, 0, none⟩) ls (j : Int) (some ⟨b, 0, none⟩) Q (lfpD (l4_disk_Disk_Crash B ro (some ⟨T, 0, none⟩) ls Q)) s2 (keep : Int) σ2 := by
        intro keep cs2 s2 hkp hc2 hrd2
        unfold j18_disk_Disk_Crash
        refine ⟨_, rfl, f.safe, hg2 1 _ rfl, _, rfl, ?_⟩
        rw [SL.w64_eq (by omega) (by omega)]
        show stN ((⟨b, 0, none⟩ : Addr).add (1 * 1)) _ _ _ _
        refine hc.st hs2 rfl (by simp) rfl fun σ3 st3 r3 => ?_
        have hbt3 := hbt.keep st3 (by simp; omega)
        obtain ⟨p3, hp3, hg3⟩ := r3.ptr st3.sep (by simp)
        cases hp3
        refine ⟨_, rfl, _, rfl, _, rfl, fs, hg3 0 _ rfl, (f.safe : Int) + keep, hg3 1 _ rfl, (f.safe : Int) + keep, hg3 1 _ rfl, ?_⟩
        obtain ⟨cc, hrw, hx1, hx2⟩ := hbt3
        refine ⟨⟨⟨by omega, by omega⟩, ⟨by omega, by omega⟩, trivial⟩, _, rfl, ?_⟩
        have etn : Int.toNat ((f.safe : Int) + (keep : Int)) = f.safe + keep := by omega
        rw [etn, cutA_zero, Nat.sub_zero]
        show stN ((⟨b, 0, none⟩ : Addr).add (0 * 1)) _ _ _ _
        refine r3.st st3.sep rfl (by simp) rfl fun σ4 st4 r4 => ?_
        have stt : Step [r + 64 * (2 * b + 2)] ro tag1 σ2 tag1 σ4 := st3.trans st4
        have hrow : RowC tag1 σ4 (r + 64 * (2 * b + 3)) 5 ⟨fs.a, f.safe + keep, f.safe + keep⟩ ((f.b.take (f.safe + keep)).map vU) := by
          refine ⟨cc, ?_, Nat.le_refl _, by simp only; omega⟩
          have := (hrw.take (n := f.safe + keep) (by rw [List.length_map]; omega)).keep st4 (by simp; omega)
          rw [List.map_take]; exact this
        have hd4 : Disk tag1 σ4 r T M cap (aput ps' k (b, ⟨f.b.take (f.safe + keep), f.safe + keep⟩)) := hd.write hk stt (by simp) ⟨_, r4, hrow⟩
        refine next (f.safe + keep) cs2 s2 _ σ4 (by omega) hkp hc2 hrd2 hd4 (st2.trans (stt.s (by simp; omega))) (aput_keys hk) fun n => ?_
        rw [lookup_aput]
      by_cases c1 : (0 : Int) < (s'.len : Int)
      · rw [if_pos c1]
        have hrdn := hrd σ2 (hcs tag1 σ2 (((st1 []).s (by simp)).trans st2))
        cases cs' with
        | nil => have := hrdn.1; simp at this; omega
        | cons c cs' =>
          obtain ⟨pa, hpa⟩ : ∃ pa, s'.a = some pa := by
            cases e : s'.a with
            | none => have := hrdn.2.1 e; cases this
            | some pa => exact ⟨pa, rfl⟩
          refine ⟨pa, hpa, by omega, c1, ⟨trivial, by simp only [cutHi]; omega⟩, c, hrdn.2.2 pa hpa 0 _ rfl, ?_⟩
          rw [show Int.toNat 1 = 1 from rfl]
          have hv : ∃ keep : Nat, (if (f.b.length : Int) - (f.safe : Int) < (if c < 0 then 0 else c) then (f.b.length : Int) - (f.safe : Int) else (if c < 0 then 0 else c)) = (keep : Int) ∧ f.safe + keep ≤ f.b.length := by
            by_cases h2 : c < 0
            · rw [if_pos h2, if_neg (by omega)]; exact ⟨0, rfl, by omega⟩
            · rw [if_neg h2]
              by_cases h1 : (f.b.length : Int) - (f.safe : Int) < c
              · rw [if_pos h1]; exact ⟨f.b.length - f.safe, by omega, by omega⟩
              · rw [if_neg h1]; exact ⟨c.toNat, by omega, by omega⟩
          obtain ⟨keep, hv1, hv2⟩ := hv
          rw [hv1]
          exact cut keep cs' _ hv2 (by simp only; omega) fun σ' x => read_tail (hrd σ' x) hc'
      · rw [if_neg c1]
        exact cut 0 cs' s' (by omega) hc' hrd
end Go.Proofs.YtfobjidchipdaaaGreatDoor.Dk

/- Numbers and bytes as the wire has them: what is written is read back, and what is read was written. -/
namespace Go.Proofs.YtfobjidchipdaaaGreatDoor.Wi
open Go Go.Proofs.YtfobjidchipdaaaGreatDoor.SL
set_option linter.unusedSimpArgs false
set_option linter.unusedVariables false

def vput (n : Nat) : Str := if n < 128 then [UInt8.ofNat n] else UInt8.ofNat (n % 128 + 128) :: vput (n / 128)
termination_by n
decreasing_by omega
def val : Str → Nat
  | [] => 0
  | c :: r => c.toNat % 128 + 128 * val r
/-- the place of the first small byte among the first ones -/
def scan : Nat → Str → Option Nat
  | 0, _ => none
  | _ + 1, [] => none
  | k + 1, c :: r => if c.toNat < 128 then some 0 else (scan k r).map (· + 1)
def num (l : Str) : Nat × Nat × Int :=
  match scan 9 l with
  | none => (0, 0, if l.length < 9 then 12 else 13)
  | some k => if (0 < k ∧ l[k]? = some 0) ∨ 4611686018427387904 ≤ val (l.take (k + 1)) then (0, 0, 13) else (val (l.take (k + 1)), k + 1, 0)

theorem u8_lt (c : UInt8) : c.toNat < 256 := c.toNat_lt
theorem u8_of (n : Nat) (h : n < 256) : (UInt8.ofNat n).toNat = n := by simp; omega
theorem u8_eq {c d : UInt8} (h : c.toNat = d.toNat) : c = d := UInt8.toNat_inj.1 h

theorem scan_some : ∀ (m : Nat) (l : Str) (k : Nat), scan m l = some k → k < m ∧ k < l.length ∧ (∀ i c, i < k → l[i]? = some c → 128 ≤ c.toNat) ∧ ∃ c, l[k]? = some c ∧ c.toNat < 128 := by
  intro m
  induction m with
  | zero => intro l k h; cases h
  | succ m ih =>
    intro l k h
    cases l with
    | nil => cases h
    | cons c r =>
      unfold scan at h
      split at h
      · rename_i hc
        cases h
        exact ⟨by omega, by simp, fun i c hi => by omega, c, rfl, hc⟩
      · rename_i hc
        obtain ⟨k', hk', rfl⟩ := Option.map_eq_some_iff.1 h
        obtain ⟨h1, h2, h3, h4⟩ := ih r k' hk'
        refine ⟨by omega, by simp; omega, fun i d hi hd => ?_, by simpa using h4⟩
        rcases i with _ | i
        · cases hd; omega
        · exact h3 i d (by omega) (by simpa using hd)
theorem scan_of : ∀ (m : Nat) (l : Str) (k : Nat) (d : UInt8), k < m → (∀ i c, i < k → l[i]? = some c → 128 ≤ c.toNat) → l[k]? = some d → d.toNat < 128 → scan m l = some k := by
  intro m
  induction m with
  | zero => intro l k d h; omega
  | succ m ih =>
    intro l k d hk hall hd hsm
    cases l with
    | nil => cases hd
    | cons c r =>
      unfold scan
      rcases k with _ | k
      · cases hd; rw [if_pos hsm]
      · rw [if_neg (by have := hall 0 c (by omega) rfl; omega), ih r k d (by omega) (fun i e hi he => hall (i + 1) e (by omega) (by simpa using he)) (by simpa using hd) hsm]; rfl
theorem scan_none_of : ∀ (m : Nat) (l : Str), (∀ i c, i < m → l[i]? = some c → 128 ≤ c.toNat) → scan m l = none := by
  intro m l h
  cases e : scan m l with
  | none => rfl
  | some k =>
    obtain ⟨h1, _, _, c, hc, h4⟩ := scan_some m l k e
    have := h k c h1 hc
    omega

theorem val_take : ∀ (l : Str) (k : Nat), val (l.take k) < 128 ^ k := by
  intro l
  induction l with
  | nil => intro k; simp [val]; exact Nat.pow_pos (by decide)
  | cons c r ih =>
    intro k
    cases k with
    | zero => simp [val]
    | succ k =>
      have := ih k
      simp only [List.take_succ_cons, val]
      have := Nat.mod_lt c.toNat (show 0 < 128 by decide)
      rw [Nat.pow_succ]
      omega
theorem val_snoc (l : Str) (c : UInt8) : val (l ++ [c]) = val l + 128 ^ l.length * (c.toNat % 128) := by
  induction l with
  | nil => simp [val]
  | cons d l ih => simp only [List.cons_append, val, ih, List.length_cons, Nat.pow_succ]; rw [Nat.mul_add, ← Nat.mul_assoc, Nat.mul_comm 128 (128 ^ l.length)]; omega

theorem vput_val : ∀ (m : Nat) (l : Str) (k : Nat), scan m l = some k → (k = 0 ∨ l[k]? ≠ some 0) → vput (val (l.take (k + 1))) = l.take (k + 1) ∧ (0 < k → 0 < val (l.take (k + 1))) := by
  intro m
  induction m with
  | zero => intro l k h; cases h
  | succ m ih =>
    intro l k h hz
    cases l with
    | nil => cases h
    | cons c r =>
      unfold scan at h
      split at h
      · rename_i hc
        cases h
        refine ⟨?_, fun h => by omega⟩
        simp only [List.take_succ_cons, List.take_zero, val, Nat.mul_zero, Nat.add_zero, Nat.mod_eq_of_lt hc]
        unfold vput
        rw [if_pos hc]
        simp
      · rename_i hc
        obtain ⟨k', hk', rfl⟩ := Option.map_eq_some_iff.1 h
        have hne : (k' = 0 ∨ r[k']? ≠ some 0) ∧ r[k']? ≠ some 0 := by
          rcases hz with h0 | h0
          · omega
          · have : r[k']? ≠ some 0 := by simpa using h0
            exact ⟨.inr this, this⟩
        obtain ⟨h1, h2⟩ := ih r k' hk' hne.1
        obtain ⟨_, h3, _, d, hd, hd'⟩ := scan_some m r k' hk'
        have hpos : 0 < val (r.take (k' + 1)) := by
          rcases Nat.eq_zero_or_pos k' with h0 | h0
          · subst h0
            cases r with
            | nil => cases hd
            | cons e r =>
              cases hd
              simp only [List.take_succ_cons, List.take_zero, val, Nat.mul_zero, Nat.add_zero, Nat.mod_eq_of_lt hd']
              rcases Nat.eq_zero_or_pos d.toNat with h5 | h5
              · exact absurd (by rw [show d = 0 from u8_eq h5]; rfl) hne.2
              · exact h5
          · exact h2 h0
        have hc256 := u8_lt c
        refine ⟨?_, fun _ => ?_⟩
        · simp only [List.take_succ_cons, val]
          unfold vput
          rw [if_neg (by omega), show (c.toNat % 128 + 128 * val (List.take (k' + 1) r)) / 128 = val (List.take (k' + 1) r) by omega, h1]
          congr 1
          refine u8_eq ?_
          rw [u8_of _ (by omega)]; omega
        · simp only [List.take_succ_cons, val]; omega

theorem vput_ne (n : Nat) : vput n ≠ [] := by unfold vput; split <;> simp
theorem vput_len : ∀ (m n : Nat), n < 128 ^ (m + 1) → 1 ≤ (vput n).length ∧ (vput n).length ≤ m + 1 := by
  intro m
  induction m with
  | zero => intro n h; unfold vput; rw [if_pos (by simpa using h)]; simp
  | succ m ih =>
    intro n h
    unfold vput
    split
    · simp
    · have := ih (n / 128) (by rw [Nat.pow_succ] at h; exact Nat.div_lt_of_lt_mul (by rw [Nat.mul_comm]; exact h))
      simp; omega
theorem scan_vput : ∀ (m n : Nat) (r : Str), n < 128 ^ (m + 1) → ∃ k, scan (m + 1) (vput n ++ r) = some k ∧ (vput n).length = k + 1 ∧ val (vput n) = n ∧ (0 < k → (vput n)[k]? ≠ some 0) ∧ (0 < n ∨ k = 0) := by
  intro m
  induction m with
  | zero =>
    intro n r h
    have h : n < 128 := by simpa using h
    unfold vput
    rw [if_pos h]
    refine ⟨0, ?_, rfl, ?_, fun h => by omega, .inr rfl⟩
    · unfold scan; rw [List.cons_append]; simp only; rw [u8_of _ (by omega), if_pos h]
    · simp only [val]; rw [u8_of _ (by omega)]; omega
  | succ m ih =>
    intro n r h
    by_cases hn : n < 128
    · unfold vput
      rw [if_pos hn]
      refine ⟨0, ?_, rfl, ?_, fun h => by omega, .inr rfl⟩
      · unfold scan; rw [List.cons_append]; simp only; rw [u8_of _ (by omega), if_pos hn]
      · simp only [val]; rw [u8_of _ (by omega)]; omega
    · obtain ⟨k, h1, h2, h3, h4, h5⟩ := ih (n / 128) r (by rw [Nat.pow_succ] at h; exact Nat.div_lt_of_lt_mul (by rw [Nat.mul_comm]; exact h))
      rw [vput, if_neg hn]
      refine ⟨k + 1, ?_, by simp [h2], ?_, fun _ => ?_, .inl (by omega)⟩
      · rw [List.cons_append]
        unfold scan
        rw [u8_of _ (by omega), if_neg (by omega), h1]; rfl
      · simp only [val]; rw [h3, u8_of _ (by omega)]; omega
      · rw [List.getElem?_cons_succ]
        rcases Nat.eq_zero_or_pos k with h0 | h0
        · subst h0
          have hlt : n / 128 < 128 ∨ ¬ n / 128 < 128 := by omega
          rcases hlt with hlt | hlt
          · rw [vput, if_pos hlt]
            simp only [List.getElem?_cons_zero]
            intro e
            have := congrArg UInt8.toNat (Option.some.inj e)
            rw [u8_of _ (by omega)] at this
            simp at this; omega
          · rw [vput, if_neg hlt] at h2
            have := List.length_pos_iff.2 (vput_ne (n / 128 / 128))
            rw [List.length_cons] at h2; omega
        · exact h4 h0
/-- what was written is read back -/
theorem num_put {n : Nat} (h : n < 4611686018427387904) (r : Str) : num (vput n ++ r) = (n, (vput n).length, 0) := by
  obtain ⟨k, h1, h2, h3, h4, _⟩ := scan_vput 8 n r (by omega)
  unfold num
  rw [h1]
  have e1 : (vput n ++ r).take (k + 1) = vput n := by rw [← h2]; simp
  have e2 : (vput n ++ r)[k]? = (vput n)[k]? := List.getElem?_append_left (by omega)
  simp only [e1, e2, h3]
  rw [if_neg, h2]
  rintro (⟨h5, h6⟩ | h5)
  · exact h4 h5 h6
  · omega
/-- what is read was written -/
theorem put_num {l : Str} {n e : Nat} (h : num l = (n, e, 0)) : n < 4611686018427387904 ∧ 0 < e ∧ e ≤ l.length ∧ l.take e = vput n := by
  unfold num at h
  cases hs : scan 9 l with
  | none =>
    rw [hs] at h
    simp only [Prod.mk.injEq] at h
    have := h.2.2
    split at this <;> omega
  | some k =>
    rw [hs] at h
    simp only at h
    split at h
    · simp at h
    · rename_i hb
      simp only [not_or] at hb
      simp only [Prod.mk.injEq] at h
      obtain ⟨rfl, rfl, _⟩ := h
      obtain ⟨_, h2, _, _⟩ := scan_some 9 l k hs
      refine ⟨by omega, by omega, by omega, ((vput_val 9 l k hs ?_).1).symm⟩
      rcases Nat.eq_zero_or_pos k with h0 | h0
      · exact .inl h0
      · exact .inr fun h => hb.1 ⟨h0, h⟩
theorem num_err {l : Str} (h : (num l).2.2 ≠ 0) : (num l).1 = 0 ∧ (num l).2.1 = 0 ∧ ((num l).2.2 = 12 ∨ (num l).2.2 = 13) := by
  unfold num at h ⊢
  cases hs : scan 9 l with
  | none => simp only; refine ⟨by simp, by simp, ?_⟩; split <;> simp
  | some k =>
    rw [hs] at h
    simp only at h ⊢
    split
    · simp
    · rename_i hb; rw [if_neg hb] at h; simp at h
theorem num_le (l : Str) : (num l).2.1 ≤ l.length ∧ (num l).1 < 4611686018427387904 := by
  by_cases h : (num l).2.2 = 0
  · obtain ⟨h1, _, h3, _⟩ := put_num (l := l) (n := (num l).1) (e := (num l).2.1) (by rw [← h])
    exact ⟨h3, h1⟩
  · obtain ⟨h1, h2, _⟩ := num_err h
    rw [h1, h2]; exact ⟨Nat.zero_le _, by decide⟩

/-- a number that the wire bears -/
def rightN (x : Int) : Bool := decide (0 ≤ x) && decide (x ≤ 4611686018427387903)
/-! ### a reader -/
structure Rd where
  rest : Str
  err : Int
def rnum (r : Rd) : Nat × Rd := if r.err ≠ 0 then (0, r) else ((num r.rest).1, ⟨r.rest.drop (num r.rest).2.1, (num r.rest).2.2⟩)
theorem rnum_put {n : Nat} (h : n < 4611686018427387904) (r : Str) : rnum ⟨vput n ++ r, 0⟩ = (n, ⟨r, 0⟩) := by
  unfold rnum
  simp only [ne_eq, not_true_eq_false, if_false, num_put h, List.drop_left]
theorem rnum_bad {r : Rd} (h : r.err ≠ 0) : rnum r = (0, r) := by unfold rnum; rw [if_pos h]
end Go.Proofs.YtfobjidchipdaaaGreatDoor.Wi

/- Sums and frames of the wire, pure. -/
namespace Go.Proofs.YtfobjidchipdaaaGreatDoor.Wi
open Go Go.Proofs.YtfobjidchipdaaaGreatDoor.SL
set_option linter.unusedSimpArgs false
set_option linter.unusedVariables false
/-- one bit of the sum -/
def crcBit (s : Nat) : Nat := if s % 2 = 1 then (s / 2) ^^^ 3988292384 else s / 2
def crcByte (s : Nat) (c : UInt8) : Nat := crcBit (crcBit (crcBit (crcBit (crcBit (crcBit (crcBit (crcBit (s ^^^ c.toNat))))))))
def crcR (l : Str) : Nat := l.foldl crcByte 4294967295
def crc (l : Str) : Nat := 4294967295 - crcR l
theorem crcBit_lt {s : Nat} (h : s < 4294967296) : crcBit s < 4294967296 := by
  unfold crcBit
  split
  · exact Nat.xor_lt_two_pow (n := 32) (by omega) (by decide)
  · omega
theorem crcByte_lt {s : Nat} {c : UInt8} (h : s < 4294967296) : crcByte s c < 4294967296 := by
  unfold crcByte
  have h0 : s ^^^ c.toNat < 4294967296 := Nat.xor_lt_two_pow (n := 32) (by omega) (by have := u8_lt c; omega)
  exact crcBit_lt (crcBit_lt (crcBit_lt (crcBit_lt (crcBit_lt (crcBit_lt (crcBit_lt (crcBit_lt h0)))))))
theorem crcR_lt (l : Str) : crcR l < 4294967296 := by
  unfold crcR
  suffices ∀ s, s < 4294967296 → l.foldl crcByte s < 4294967296 from this _ (by decide)
  induction l with
  | nil => intro s h; exact h
  | cons c l ih => intro s h; exact ih _ (crcByte_lt h)
theorem crc_lt (l : Str) : crc l < 4294967296 := by unfold crc; omega

def four (n : Nat) : Str := [UInt8.ofNat (n % 256), UInt8.ofNat (n / 256 % 256), UInt8.ofNat (n / 65536 % 256), UInt8.ofNat (n / 16777216 % 256)]
def value : Str → Nat
  | a :: b :: c :: d :: _ => a.toNat + 256 * b.toNat + 65536 * c.toNat + 16777216 * d.toNat
  | _ => 0
theorem value_four {n : Nat} (h : n < 4294967296) (r : Str) : value (four n ++ r) = n := by
  unfold four value
  simp only [List.cons_append]
  rw [u8_of _ (by omega), u8_of _ (by omega), u8_of _ (by omega), u8_of _ (by omega)]
  omega
theorem four_len (n : Nat) : (four n).length = 4 := rfl
def frame (p : Str) : Str := four p.length ++ (four (crc (four p.length ++ p)) ++ p)
theorem frame_len (p : Str) : (frame p).length = 8 + p.length := by unfold frame; simp [four_len]; omega
/-- the payload of the frame at the beginning, the place behind it, the error -/
def unframe (l : Str) : Str × Nat × Int :=
  if l.length < 8 then ([], 0, 12)
  else if 65536 < value l then ([], 0, 14)
  else if l.length - 8 < value l then ([], 0, 12)
  else if crc (four (value l) ++ (l.drop 8).take (value l)) = value (l.drop 4) then ((l.drop 8).take (value l), 8 + value l, 0)
  else ([], 0, 15)
theorem unframe_frame {p : Str} (h : p.length ≤ 65536) (r : Str) : unframe (frame p ++ r) = (p, 8 + p.length, 0) := by
  have h1 : value (frame p ++ r) = p.length := by unfold frame; rw [List.append_assoc]; exact value_four (by omega) _
  have h2 : (frame p ++ r).drop 4 = four (crc (four p.length ++ p)) ++ (p ++ r) := by
    unfold frame
    rw [List.append_assoc, List.append_assoc, List.drop_left' (four_len _)]
  have h3 : (frame p ++ r).drop 8 = p ++ r := by
    rw [show (8 : Nat) = 4 + 4 from rfl, ← List.drop_drop, h2, List.drop_left' (four_len _)]
  have hl : (frame p ++ r).length = 8 + p.length + r.length := by rw [List.length_append, frame_len]
  unfold unframe
  rw [h1, h2, h3, hl, if_neg (by omega), if_neg (by omega), if_neg (by omega), value_four (crc_lt _), List.take_left, if_pos rfl]
end Go.Proofs.YtfobjidchipdaaaGreatDoor.Wi

/- The buffer of a writer: bytes are written behind others. -/
namespace Go.Proofs.YtfobjidchipdaaaGreatDoor.Wi
open Go Go.Proofs.YtfobjidchipdaaaGreatDoor.SL Go.Proofs.YtfobjidchipdaaaGreatDoor.G Go.Proofs.YtfobjidchipdaaaGreatDoor.Zt
set_option linter.unusedSimpArgs false
set_option linter.unusedVariables false
variable {B : World} {ro σ σ' : AH} {tag tag' : Nat → Nat}
theorem vU_st (d : Str) : ∀ v ∈ d.map vU, storable v = true := fun v hv => by
  obtain ⟨c, _, rfl⟩ := List.mem_map.1 hv; rfl

/-- a buffer (and the mark behind it) at W, of the role r; its bytes lie in a row of the role r + 64 -/
def BufV (tag : Nat → Nat) (σ : AH) (r W : Nat) (s : Sl) (l : List Value) (bad : Bool) : Prop :=
  s.cap ≤ 9223372036854775807 ∧ ∃ lr : Int, Row tag σ r 167 ⟨some ⟨W, 0, none⟩, 4, 4⟩ [Sl.v s, .int .i64 0, .int .i8 lr, .bool bad] ∧ Row tag σ (r + 64) 5 s l
def BufAt (tag : Nat → Nat) (σ : AH) (r W : Nat) (acc : Str) (bad : Bool) : Prop := ∃ s, BufV tag σ r W s (acc.map vU) bad
theorem BufV.keep {R : List Nat} {r W : Nat} {s : Sl} {l : List Value} {bad : Bool} (h : BufV tag σ r W s l bad) (k : Step R ro tag σ tag' σ') (h1 : r ∉ R) (h2 : r + 64 ∉ R) : BufV tag' σ' r W s l bad := by
  obtain ⟨hc, lr, a, b⟩ := h
  exact ⟨hc, lr, a.keep k h1, b.keep k h2⟩
theorem BufAt.keep {R : List Nat} {r W : Nat} {acc : Str} {bad : Bool} (h : BufAt tag σ r W acc bad) (k : Step R ro tag σ tag' σ') (h1 : r ∉ R) (h2 : r + 64 ∉ R) : BufAt tag' σ' r W acc bad := by
  obtain ⟨s, h⟩ := h
  exact ⟨s, h.keep k h1 h2⟩

end Go.Proofs.YtfobjidchipdaaaGreatDoor.Wi

/- Functions as predicate transformers, and the proofs that the code does what they tell: printed by wip/tools/gen.py. -/
namespace Go.Proofs.YtfobjidchipdaaaGreatDoor.G
open Go Go.Proofs.YtfobjidchipdaaaGreatDoor.SL
set_option linter.unusedVariables false
set_option linter.unusedSimpArgs false

def j1_wire_Sum (B : World) (ro : AH) (Q : Int → AH → Prop) (x3_2 : Int) (σ : AH) : Prop :=
 Q (IntKind.i64.wrap (bitXor .u32 (if IntKind.u32.signed then -1 else IntKind.u32.max) x3_2)) σ

def j6_wire_Sum (B : World) (ro : AH) (a0 : Sl) (x8_5 : Int) (Q : Int → AH → Prop) (Y3 : (Int × Int) → AH → Prop) (x3_7 : Int) (σ : AH) : Prop :=
 Y3 (x3_7, IntKind.i64.wrap (x8_5 + 1)) σ

def j13_wire_Sum (B : World) (ro : AH) (a0 : Sl) (x8_5 : Int) (x16_12 : Int) (Q : Int → AH → Prop) (Y3 : (Int × Int) → AH → Prop) (Y10 : (Int × Int) → AH → Prop) (x3_14 : Int) (σ : AH) : Prop :=
 Y10 (x3_14, IntKind.i64.wrap (x16_12 + 1)) σ

def l10_wire_Sum (B : World) (ro : AH) (a0 : Sl) (x8_5 : Int) (Q : Int → AH → Prop) (Y3 : (Int × Int) → AH → Prop) : (Int × Int) → AH → ((Int × Int) → AH → Prop) → Prop := fun ⟨x3_11, x16_12⟩ σ Y10 =>
 if x16_12 < 8 then
  if (bitAnd .u32 x3_11 1) = 1 then
   j13_wire_Sum B ro a0 x8_5 x16_12 Q Y3 Y10 (bitXor .u32 (Int.fdiv x3_11 (2 ^ (min (Int.toNat 1) 32))) 3988292384) σ
  else
  j13_wire_Sum B ro a0 x8_5 x16_12 Q Y3 Y10 (Int.fdiv x3_11 (2 ^ (min (Int.toNat 1) 32))) σ
 else
 j6_wire_Sum B ro a0 x8_5 Q Y3 x3_11 σ

def l3_wire_Sum (B : World) (ro : AH) (a0 : Sl) (Q : Int → AH → Prop) : (Int × Int) → AH → ((Int × Int) → AH → Prop) → Prop := fun ⟨x3_4, x8_5⟩ σ Y3 =>
 if x8_5 < (a0.len : Int) then
  ∃ p10_8 : Addr, a0.a = some p10_8 ∧ (0 : Int) ≤ x8_5 ∧ x8_5 < (a0.len : Int) ∧
  ∃ (x11_9 : Int), acell ro σ (p10_8.add (Int.toNat x8_5 * 1)) = some (.int .u8 x11_9) ∧
  lfpD (l10_wire_Sum B ro a0 x8_5 Q Y3 ) (bitXor .u32 x3_4 (IntKind.u32.wrap x11_9), 0) σ
 else
 j1_wire_Sum B ro Q x3_4 σ

def f_wire_Sum (B : World) (ro : AH) (a0 : Sl) (σ : AH) (Q : Int → AH → Prop) : Prop :=
 lfpD (l3_wire_Sum B ro a0 Q ) (4294967295, 0) σ

set_option maxRecDepth 100000 in
set_option maxHeartbeats 4000000 in
theorem wire_Sum_ok {B : World} {ro : AH} {a0 : Sl} {σ : AH} {Q : Int → AH → Prop} (h : Sep ro σ → f_wire_Sum B ro a0 σ Q) : c_wire_Sum B ro a0 σ Q := by
  refine ACalls.of_sep fun hsep => ?_
  replace h := h hsep
  refine ACalls.of_body (args := [Sl.v a0]) Tryz.func77 rfl (by rw [Tryz.ntmps77]; simp) ?_
  rw [Tryz.ntmps77]
  unfold f_wire_Sum at h
  refine AW.seq ?_
  refine AW.reg ?_
  refine Lp (V_asg rfl rfl) rfl rfl ?_
  refine Lnil ?_
  refine thenN ?_
  refine AW.seq ?_
  refine AW.reg ?_
  refine Lp (V_asg rfl rfl) rfl rfl ?_
  refine Lnil ?_
  refine thenN ?_
  refine AW.seqJ (fun fr σ => ∃ (x3_2 : Int), FrLe [(3, .int .u32 x3_2)] fr ∧ j1_wire_Sum B ro Q x3_2 σ) ?_ ?_
  · rintro fr σ ⟨x3_2, hl, h⟩
    refine AW.weaken ?_ hl (HLe.refl _)
    unfold j1_wire_Sum at h
    refine AW.seq ?_
    refine AW.reg ?_
    refine Lp (V_move rfl rfl) rfl rfl ?_
    refine Lp (V_inv rfl rfl) rfl rfl ?_
    refine Lp (V_cvt rfl rfl Tryz.underlying175 Tryz.underlying3) rfl rfl ?_
    refine Lp (V_asg rfl rfl) rfl rfl ?_
    refine Lnil ?_
    refine thenN ?_
    refine AW.ret ?_
    exact bR1 Tryz.results77 rfl ⟨_, rfl, h⟩
  refine AW.seq ?_
  refine AW.reg ?_
  refine Lp (V_move rfl rfl) rfl rfl ?_
  refine Lp (V_lenL rfl rfl Tryz.underlying22 rfl rfl) rfl rfl ?_
  refine Lp (V_move rfl rfl) rfl rfl ?_
  refine Lnil ?_
  refine thenN ?_
  refine AW.block ?_
  refine ARound.loop (fr' := [(6, Sl.v a0), (7, .int .i64 (a0.len : Int)), (3, .int .u32 4294967295), (8, .int .i64 0)]) ?_ (FrLe.cons rfl (FrLe.cons rfl (FrLe.cons rfl (FrLe.cons rfl (FrLe.nil _)))))
  refine h (fun ⟨x3_4, x8_5⟩ σ => ARound _ _ _ _ _ _ [(6, Sl.v a0), (7, .int .i64 (a0.len : Int)), (3, .int .u32 x3_4), (8, .int .i64 x8_5)] σ) ?_
  rintro ⟨x3_4, x8_5⟩ σ Y3 hY3 h
  show AW _ _ _ _ _ _ _ _
  unfold l3_wire_Sum at h
  dsimp only at h
  refine AW.seq ?_
  refine AW.reg ?_
  refine Lp (V_lss rfl rfl rfl) rfl rfl ?_
  refine Lnil ?_
  refine thenN ?_
  refine AW.seq ?_
  refine AW.iff rfl decide_eq_true_iff h (fun h => ?_) (fun h => ?_)
  rotate_left
  · refine AW.exit ?_
    refine thenE ?_
    refine thenE ?_
    refine blockE ?_
    refine thenN ?_
    exact ⟨_, (FrLe.cons rfl (FrLe.nil _)), h⟩
  refine AW.skip ?_
  refine thenN ?_
  refine AW.seqJ (fun fr σ => ∃ (x3_7 : Int), FrLe [(6, Sl.v a0), (7, .int .i64 (a0.len : Int)), (8, .int .i64 x8_5), (3, .int .u32 x3_7)] fr ∧ j6_wire_Sum B ro a0 x8_5 Q Y3 x3_7 σ) ?_ ?_
  · rintro fr σ ⟨x3_7, hl, h⟩
    refine AW.weaken ?_ hl (HLe.refl _)
    unfold j6_wire_Sum at h
    refine AW.reg ?_
    refine Lp (V_add rfl rfl rfl) rfl rfl ?_
    refine Lp (V_move rfl rfl) rfl rfl ?_
    refine Lnil ?_
    refine thenN ?_
    refine ARound.head (fr' := [(6, Sl.v a0), (7, .int .i64 (a0.len : Int)), (3, .int .u32 x3_7), (8, .int .i64 (IntKind.i64.wrap (x8_5 + 1)))]) ?_ (FrLe.cons rfl (FrLe.cons rfl (FrLe.cons rfl (FrLe.cons rfl (FrLe.nil _)))))
    exact hY3 _ _ h
  refine AW.block ?_
  refine AW.seq ?_
  refine AW.reg ?_
  obtain ⟨p10_8, ha, h0, h1, h⟩ := h
  refine Lp (V_ixA rfl Tryz.underlying22 ty5 (ixL rfl ha) rfl h0 h1) rfl rfl ?_
  obtain ⟨x11_9, hc, h⟩ := h
  refine Ls rfl rfl (X_ld rfl Tryz.underlying5 rfl rfl hc ?_)
  refine Lp (V_asg rfl rfl) rfl rfl ?_
  refine Lnil ?_
  refine thenN ?_
  refine AW.seq ?_
  refine AW.reg ?_
  refine Lp (V_move rfl rfl) rfl rfl ?_
  refine Lp (V_move rfl rfl) rfl rfl ?_
  refine Lp (V_cvt rfl rfl Tryz.underlying5 Tryz.underlying175) rfl rfl ?_
  refine Lp (V_xor rfl rfl rfl) rfl rfl ?_
  refine Lp (V_asg rfl rfl) rfl rfl ?_
  refine Lnil ?_
  refine thenN ?_
  refine AW.seq ?_
  refine AW.reg ?_
  refine Lp (V_move rfl rfl) rfl rfl ?_
  refine Lnil ?_
  refine thenN ?_
  refine AW.block ?_
  refine ARound.loop (fr' := [(6, Sl.v a0), (7, .int .i64 (a0.len : Int)), (8, .int .i64 x8_5), (3, .int .u32 (bitXor .u32 x3_4 (IntKind.u32.wrap x11_9))), (16, .int .i64 0)]) ?_ (FrLe.cons rfl (FrLe.cons rfl (FrLe.cons rfl (FrLe.cons rfl (FrLe.cons rfl (FrLe.nil _))))))
  refine h (fun ⟨x3_11, x16_12⟩ σ => ARound _ _ _ _ _ _ [(6, Sl.v a0), (7, .int .i64 (a0.len : Int)), (8, .int .i64 x8_5), (3, .int .u32 x3_11), (16, .int .i64 x16_12)] σ) ?_
  rintro ⟨x3_11, x16_12⟩ σ Y10 hY10 h
  show AW _ _ _ _ _ _ _ _
  unfold l10_wire_Sum at h
  dsimp only at h
  refine AW.seq ?_
  refine AW.reg ?_
  refine Lp (V_lss rfl rfl rfl) rfl rfl ?_
  refine Lnil ?_
  refine thenN ?_
  refine AW.seq ?_
  refine AW.iff rfl decide_eq_true_iff h (fun h => ?_) (fun h => ?_)
  rotate_left
  · refine AW.exit ?_
    refine thenE ?_
    refine thenE ?_
    refine blockE ?_
    refine blockN ?_
    refine thenN ?_
    exact ⟨_, (FrLe.cons rfl (FrLe.cons rfl (FrLe.cons rfl (FrLe.cons rfl (FrLe.nil _))))), h⟩
  refine AW.skip ?_
  refine thenN ?_
  refine AW.seqJ (fun fr σ => ∃ (x3_14 : Int), FrLe [(6, Sl.v a0), (7, .int .i64 (a0.len : Int)), (8, .int .i64 x8_5), (16, .int .i64 x16_12), (3, .int .u32 x3_14)] fr ∧ j13_wire_Sum B ro a0 x8_5 x16_12 Q Y3 Y10 x3_14 σ) ?_ ?_
  · rintro fr σ ⟨x3_14, hl, h⟩
    refine AW.weaken ?_ hl (HLe.refl _)
    unfold j13_wire_Sum at h
    refine AW.reg ?_
    refine Lp (V_add rfl rfl rfl) rfl rfl ?_
    refine Lp (V_move rfl rfl) rfl rfl ?_
    refine Lnil ?_
    refine thenN ?_
    refine ARound.head (fr' := [(6, Sl.v a0), (7, .int .i64 (a0.len : Int)), (8, .int .i64 x8_5), (3, .int .u32 x3_14), (16, .int .i64 (IntKind.i64.wrap (x16_12 + 1)))]) ?_ (FrLe.cons rfl (FrLe.cons rfl (FrLe.cons rfl (FrLe.cons rfl (FrLe.cons rfl (FrLe.nil _))))))
    exact hY10 _ _ h
  refine AW.block ?_
  refine AW.seq ?_
  refine AW.reg ?_
  refine Lp (V_move rfl rfl) rfl rfl ?_
  refine Lp (V_and rfl rfl rfl) rfl rfl ?_
  refine Lp (V_eql rfl rfl rfl) rfl rfl ?_
  refine Lnil ?_
  refine thenN ?_
  refine AW.iff rfl decide_eq_true_iff h (fun h => ?_) (fun h => ?_)
  rotate_left
  · refine AW.reg ?_
    refine Lp (V_move rfl rfl) rfl rfl ?_
    refine Lp (V_shr rfl rfl rfl (by decide)) rfl rfl ?_
    refine Lp (V_asg rfl rfl) rfl rfl ?_
    refine Lnil ?_
    refine blockN ?_
    refine thenN ?_
    exact ⟨_, (FrLe.cons rfl (FrLe.cons rfl (FrLe.cons rfl (FrLe.cons rfl (FrLe.cons rfl (FrLe.nil _)))))), h⟩
  refine AW.reg ?_
  refine Lp (V_move rfl rfl) rfl rfl ?_
  refine Lp (V_shr rfl rfl rfl (by decide)) rfl rfl ?_
  refine Lp (V_xor rfl rfl rfl) rfl rfl ?_
  refine Lp (V_asg rfl rfl) rfl rfl ?_
  refine Lnil ?_
  refine blockN ?_
  refine thenN ?_
  exact ⟨_, (FrLe.cons rfl (FrLe.cons rfl (FrLe.cons rfl (FrLe.cons rfl (FrLe.cons rfl (FrLe.nil _)))))), h⟩

def j1_wire_Numbers (B : World) (ro : AH) (Q : Sl → Int → AH → Prop) (x4_2 : Sl) (σ : AH) : Prop :=
 Q x4_2 0 σ

def l3_wire_Numbers (B : World) (ro : AH) (a0 : Sl) (Q : Sl → Int → AH → Prop) : (Sl × Int) → AH → ((Sl × Int) → AH → Prop) → Prop := fun ⟨x4_4, x9_5⟩ σ Y3 =>
 if x9_5 < (a0.len : Int) then
  ∃ p11_6 : Addr, a0.a = some p11_6 ∧ (0 : Int) ≤ x9_5 ∧ x9_5 < (a0.len : Int) ∧
  ∃ (x12_7 : Int), acell ro σ (p11_6.add (Int.toNat x9_5 * 1)) = some (.int .i64 x12_7) ∧
  c_wire_right B ro x12_7 σ fun x14_8 σ =>
  if ¬ (x14_8 = true) then
   Q (⟨none, 0, 0⟩ : Sl) 10 σ
  else
  c_wire_put B ro x4_4 x12_7 σ fun x18_9 σ =>
  Y3 (x18_9, IntKind.i64.wrap (x9_5 + 1)) σ
 else
 j1_wire_Numbers B ro Q x4_4 σ

def f_wire_Numbers (B : World) (ro : AH) (a0 : Sl) (σ : AH) (Q : Sl → Int → AH → Prop) : Prop :=
 lfpD (l3_wire_Numbers B ro a0 Q ) ((⟨none, 0, 0⟩ : Sl), 0) σ

set_option maxRecDepth 100000 in
set_option maxHeartbeats 4000000 in
theorem wire_Numbers_ok {B : World} {ro : AH} {a0 : Sl} {σ : AH} {Q : Sl → Int → AH → Prop} (h : Sep ro σ → f_wire_Numbers B ro a0 σ Q) : c_wire_Numbers B ro a0 σ Q := by
  refine ACalls.of_sep fun hsep => ?_
  replace h := h hsep
  refine ACalls.of_body (args := [Sl.v a0]) Tryz.func78 rfl (by rw [Tryz.ntmps78]; simp) ?_
  rw [Tryz.ntmps78]
  unfold f_wire_Numbers at h
  refine AW.seq ?_
  refine AW.reg ?_
  refine Lp (V_asg rfl rfl) rfl rfl ?_
  refine Lp (V_asg rfl rfl) rfl rfl ?_
  refine Lnil ?_
  refine thenN ?_
  refine AW.seq ?_
  refine AW.reg ?_
  refine Lp (V_asg rfl rfl) rfl rfl ?_
  refine Lnil ?_
  refine thenN ?_
  refine AW.seqJ (fun fr σ => ∃ (x4_2 : Sl), FrLe [(4, Sl.v x4_2)] fr ∧ j1_wire_Numbers B ro Q x4_2 σ) ?_ ?_
  · rintro fr σ ⟨x4_2, hl, h⟩
    refine AW.weaken ?_ hl (HLe.refl _)
    unfold j1_wire_Numbers at h
    refine AW.seq ?_
    refine AW.reg ?_
    refine Lp (V_move rfl rfl) rfl rfl ?_
    refine Lp (V_asg rfl rfl) rfl rfl ?_
    refine Lp (V_asg rfl rfl) rfl rfl ?_
    refine Lnil ?_
    refine thenN ?_
    refine AW.ret ?_
    exact bR2 Tryz.results78 rfl rfl ⟨_, _, rfl, h⟩
  refine AW.seq ?_
  refine AW.reg ?_
  refine Lp (V_move rfl rfl) rfl rfl ?_
  refine Lp (V_lenL rfl rfl Tryz.underlying23 rfl rfl) rfl rfl ?_
  refine Lp (V_move rfl rfl) rfl rfl ?_
  refine Lnil ?_
  refine thenN ?_
  refine AW.block ?_
  refine ARound.loop (fr' := [(7, Sl.v a0), (8, .int .i64 (a0.len : Int)), (4, Sl.v (⟨none, 0, 0⟩ : Sl)), (9, .int .i64 0)]) ?_ (FrLe.cons rfl (FrLe.cons rfl (FrLe.cons rfl (FrLe.cons rfl (FrLe.nil _)))))
  refine h (fun ⟨x4_4, x9_5⟩ σ => ARound _ _ _ _ _ _ [(7, Sl.v a0), (8, .int .i64 (a0.len : Int)), (4, Sl.v x4_4), (9, .int .i64 x9_5)] σ) ?_
  rintro ⟨x4_4, x9_5⟩ σ Y3 hY3 h
  show AW _ _ _ _ _ _ _ _
  unfold l3_wire_Numbers at h
  dsimp only at h
  refine AW.seq ?_
  refine AW.reg ?_
  refine Lp (V_lss rfl rfl rfl) rfl rfl ?_
  refine Lnil ?_
  refine thenN ?_
  refine AW.seq ?_
  refine AW.iff rfl decide_eq_true_iff h (fun h => ?_) (fun h => ?_)
  rotate_left
  · refine AW.exit ?_
    refine thenE ?_
    refine thenE ?_
    refine blockE ?_
    refine thenN ?_
    exact ⟨_, (FrLe.cons rfl (FrLe.nil _)), h⟩
  refine AW.skip ?_
  refine thenN ?_
  refine AW.seq ?_
  refine AW.block ?_
  refine AW.seq ?_
  refine AW.reg ?_
  obtain ⟨p11_6, ha, h0, h1, h⟩ := h
  refine Lp (V_ixA rfl Tryz.underlying23 ty3 (ixL rfl ha) rfl h0 h1) rfl rfl ?_
  obtain ⟨x12_7, hc, h⟩ := h
  refine Ls rfl rfl (X_ld rfl Tryz.underlying3 rfl rfl hc ?_)
  refine Lp (V_asg rfl rfl) rfl rfl ?_
  refine Lnil ?_
  refine thenN ?_
  refine AW.seq ?_
  refine AW.seq ?_
  refine AW.reg ?_
  refine Lp (V_move rfl rfl) rfl rfl ?_
  refine Ls rfl rfl (X_call rfl Tryz.func102 rfl rfl rfl (ACalls.mono h ?_))
  rintro v σ ⟨x14_8, rfl, h⟩
  refine Lp (V_not rfl rfl) rfl rfl ?_
  refine Lnil ?_
  refine thenN ?_
  refine AW.iff rfl (bnot_iff Iff.rfl) h (fun h => ?_) (fun h => ?_)
  · refine AW.seq ?_
    refine AW.reg ?_
    refine Lp (V_asg rfl rfl) rfl rfl ?_
    refine Lp (V_asg rfl rfl) rfl rfl ?_
    refine Lnil ?_
    refine thenN ?_
    refine AW.ret ?_
    refine thenR ?_
    refine blockR ?_
    refine thenR ?_
    refine thenR ?_
    refine blockR ?_
    refine thenR ?_
    exact bR2 Tryz.results78 rfl rfl ⟨_, _, rfl, h⟩
  refine AW.skip ?_
  refine thenN ?_
  refine AW.reg ?_
  refine Lp (V_move rfl rfl) rfl rfl ?_
  refine Lp (V_move rfl rfl) rfl rfl ?_
  refine Ls rfl rfl (X_call rfl Tryz.func103 rfl rfl rfl (ACalls.mono h ?_))
  rintro v σ ⟨x18_9, rfl, h⟩
  refine Lp (V_asg rfl rfl) rfl rfl ?_
  refine Lnil ?_
  refine blockN ?_
  refine thenN ?_
  refine AW.reg ?_
  refine Lp (V_add rfl rfl rfl) rfl rfl ?_
  refine Lp (V_move rfl rfl) rfl rfl ?_
  refine Lnil ?_
  refine thenN ?_
  refine ARound.head (fr' := [(7, Sl.v a0), (8, .int .i64 (a0.len : Int)), (4, Sl.v x18_9), (9, .int .i64 (IntKind.i64.wrap (x9_5 + 1)))]) ?_ (FrLe.cons rfl (FrLe.cons rfl (FrLe.cons rfl (FrLe.cons rfl (FrLe.nil _)))))
  exact hY3 _ _ h

def f_wire_Frame (B : World) (ro : AH) (a0 : Sl) (σ : AH) (Q : Sl → Int → AH → Prop) : Prop :=
 if 65536 < (a0.len : Int) then
  Q (⟨none, 0, 0⟩ : Sl) 14 σ
 else
 c_wire_four B ro (a0.len : Int) σ fun x11_1 σ =>
 c_wire_four B ro (a0.len : Int) σ fun x14_2 σ =>
 awp Tryz.prog ro (Builtin.append_ #[22, 22] 22 #[Sl.v x14_2, Sl.v a0]) (fun v σ => ∃ (x16_3 : Sl), v = Sl.v x16_3 ∧
  c_wire_Sum B ro x16_3 σ fun x17_4 σ =>
  c_wire_four B ro x17_4 σ fun x18_5 σ =>
  awp Tryz.prog ro (Builtin.append_ #[22, 22] 22 #[Sl.v x11_1, Sl.v x18_5]) (fun v σ => ∃ (x21_6 : Sl), v = Sl.v x21_6 ∧
   awp Tryz.prog ro (Builtin.append_ #[22, 22] 22 #[Sl.v x21_6, Sl.v a0]) (fun v σ => ∃ (x23_7 : Sl), v = Sl.v x23_7 ∧
    Q x23_7 0 σ) σ) σ) σ

set_option maxRecDepth 100000 in
set_option maxHeartbeats 4000000 in
theorem wire_Frame_ok {B : World} {ro : AH} {a0 : Sl} {σ : AH} {Q : Sl → Int → AH → Prop} (h : Sep ro σ → f_wire_Frame B ro a0 σ Q) : c_wire_Frame B ro a0 σ Q := by
  refine ACalls.of_sep fun hsep => ?_
  replace h := h hsep
  refine ACalls.of_body (args := [Sl.v a0]) Tryz.func79 rfl (by rw [Tryz.ntmps79]; simp) ?_
  rw [Tryz.ntmps79]
  unfold f_wire_Frame at h
  refine AW.seq ?_
  refine AW.reg ?_
  refine Lp (V_asg rfl rfl) rfl rfl ?_
  refine Lp (V_asg rfl rfl) rfl rfl ?_
  refine Lnil ?_
  refine thenN ?_
  refine AW.seq ?_
  refine AW.seq ?_
  refine AW.reg ?_
  refine Lp (V_move rfl rfl) rfl rfl ?_
  refine Lp (V_lenL rfl rfl Tryz.underlying22 rfl rfl) rfl rfl ?_
  refine Lp (V_gtr rfl rfl rfl) rfl rfl ?_
  refine Lnil ?_
  refine thenN ?_
  refine AW.iff rfl decide_eq_true_iff h (fun h => ?_) (fun h => ?_)
  · refine AW.seq ?_
    refine AW.reg ?_
    refine Lp (V_asg rfl rfl) rfl rfl ?_
    refine Lp (V_asg rfl rfl) rfl rfl ?_
    refine Lnil ?_
    refine thenN ?_
    refine AW.ret ?_
    refine thenR ?_
    exact bR2 Tryz.results79 rfl rfl ⟨_, _, rfl, h⟩
  refine AW.skip ?_
  refine thenN ?_
  refine AW.seq ?_
  refine AW.reg ?_
  refine Lp (V_move rfl rfl) rfl rfl ?_
  refine Lp (V_lenL rfl rfl Tryz.underlying22 rfl rfl) rfl rfl ?_
  refine Ls rfl rfl (X_call rfl Tryz.func104 rfl rfl rfl (ACalls.mono h ?_))
  rintro v σ ⟨x11_1, rfl, h⟩
  refine Lp (V_asg rfl rfl) rfl rfl ?_
  refine Lnil ?_
  refine thenN ?_
  refine AW.seq ?_
  refine AW.reg ?_
  refine Lp (V_move rfl rfl) rfl rfl ?_
  refine Lp (V_lenL rfl rfl Tryz.underlying22 rfl rfl) rfl rfl ?_
  refine Ls rfl rfl (X_call rfl Tryz.func104 rfl rfl rfl (ACalls.mono h ?_))
  rintro v σ ⟨x14_2, rfl, h⟩
  refine Lp (V_move rfl rfl) rfl rfl ?_
  refine Ls rfl rfl (X_bi (s := Builtin.append_ #[22, 22] 22 #[Sl.v x14_2, Sl.v a0]) rfl rfl (fun _ => rfl) (awp_mono _ h ?_))
  rintro v σ ⟨x16_3, rfl, h⟩
  refine Ls rfl rfl (X_call rfl Tryz.func77 rfl rfl rfl (ACalls.mono h ?_))
  rintro v σ ⟨x17_4, rfl, h⟩
  refine Ls rfl rfl (X_call rfl Tryz.func104 rfl rfl rfl (ACalls.mono h ?_))
  rintro v σ ⟨x18_5, rfl, h⟩
  refine Lp (V_asg rfl rfl) rfl rfl ?_
  refine Lnil ?_
  refine thenN ?_
  refine AW.seq ?_
  refine AW.reg ?_
  refine Lp (V_move rfl rfl) rfl rfl ?_
  refine Lp (V_move rfl rfl) rfl rfl ?_
  refine Ls rfl rfl (X_bi (s := Builtin.append_ #[22, 22] 22 #[Sl.v x11_1, Sl.v x18_5]) rfl rfl (fun _ => rfl) (awp_mono _ h ?_))
  rintro v σ ⟨x21_6, rfl, h⟩
  refine Lp (V_move rfl rfl) rfl rfl ?_
  refine Ls rfl rfl (X_bi (s := Builtin.append_ #[22, 22] 22 #[Sl.v x21_6, Sl.v a0]) rfl rfl (fun _ => rfl) (awp_mono _ h ?_))
  rintro v σ ⟨x23_7, rfl, h⟩
  refine Lp (V_asg rfl rfl) rfl rfl ?_
  refine Lp (V_asg rfl rfl) rfl rfl ?_
  refine Lnil ?_
  refine thenN ?_
  refine AW.ret ?_
  exact bR2 Tryz.results79 rfl rfl ⟨_, _, rfl, h⟩

def f_wire_Unframe (B : World) (ro : AH) (a0 : Sl) (a1 : Int) (σ : AH) (Q : Sl → Int → Int → AH → Prop) : Prop :=
 if (a1 < 0) ∨ ((a0.len : Int) < a1) then
  Q (⟨none, 0, 0⟩ : Sl) 0 11 σ
 else
 if (IntKind.i64.wrap ((a0.len : Int) - a1)) < 8 then
  Q (⟨none, 0, 0⟩ : Sl) 0 12 σ
 else
 cutOk (some a1) none a0.len a0.cap ∧
 c_wire_value B ro (⟨cutA a0.a (Int.toNat a1) a0.cap 1, a0.len - Int.toNat a1, a0.cap - Int.toNat a1⟩ : Sl) σ fun x26_1 σ =>
 if 65536 < x26_1 then
  Q (⟨none, 0, 0⟩ : Sl) 0 14 σ
 else
 if (IntKind.i64.wrap ((IntKind.i64.wrap ((a0.len : Int) - a1)) - 8)) < x26_1 then
  Q (⟨none, 0, 0⟩ : Sl) 0 12 σ
 else
 cutOk (some (IntKind.i64.wrap (a1 + 8))) (some (IntKind.i64.wrap ((IntKind.i64.wrap (a1 + 8)) + x26_1))) a0.len a0.cap ∧
 c_bytes_Clone B ro (⟨cutA a0.a (Int.toNat (IntKind.i64.wrap (a1 + 8))) a0.cap 1, Int.toNat (IntKind.i64.wrap ((IntKind.i64.wrap (a1 + 8)) + x26_1)) - Int.toNat (IntKind.i64.wrap (a1 + 8)), a0.cap - Int.toNat (IntKind.i64.wrap (a1 + 8))⟩ : Sl) σ fun x46_2 σ =>
 cutOk (some (IntKind.i64.wrap (a1 + 4))) none a0.len a0.cap ∧
 c_wire_four B ro x26_1 σ fun x48_3 σ =>
 awp Tryz.prog ro (Builtin.append_ #[22, 22] 22 #[Sl.v x48_3, Sl.v x46_2]) (fun v σ => ∃ (x50_4 : Sl), v = Sl.v x50_4 ∧
  c_wire_Sum B ro x50_4 σ fun x51_5 σ =>
  c_wire_value B ro (⟨cutA a0.a (Int.toNat (IntKind.i64.wrap (a1 + 4))) a0.cap 1, a0.len - Int.toNat (IntKind.i64.wrap (a1 + 4)), a0.cap - Int.toNat (IntKind.i64.wrap (a1 + 4))⟩ : Sl) σ fun x56_6 σ =>
  if ¬ (x51_5 = x56_6) then
   Q (⟨none, 0, 0⟩ : Sl) 0 15 σ
  else
  Q x46_2 (IntKind.i64.wrap ((IntKind.i64.wrap (a1 + 8)) + x26_1)) 0 σ) σ

set_option maxRecDepth 100000 in
set_option maxHeartbeats 4000000 in
theorem wire_Unframe_ok {B : World} {ro : AH} {a0 : Sl} {a1 : Int} {σ : AH} {Q : Sl → Int → Int → AH → Prop} (h : Sep ro σ → f_wire_Unframe B ro a0 a1 σ Q) : c_wire_Unframe B ro a0 a1 σ Q := by
  refine ACalls.of_sep fun hsep => ?_
  replace h := h hsep
  refine ACalls.of_body (args := [Sl.v a0, .int .i64 a1]) Tryz.func86 rfl (by rw [Tryz.ntmps86]; simp) ?_
  rw [Tryz.ntmps86]
  unfold f_wire_Unframe at h
  refine AW.seq ?_
  refine AW.reg ?_
  refine Lp (V_asg rfl rfl) rfl rfl ?_
  refine Lp (V_asg rfl rfl) rfl rfl ?_
  refine Lp (V_asg rfl rfl) rfl rfl ?_
  refine Lnil ?_
  refine thenN ?_
  refine AW.seq ?_
  refine AW.block ?_
  refine AW.seq ?_
  refine AW.reg ?_
  refine Lp (V_move rfl rfl) rfl rfl ?_
  refine Lp (V_lss rfl rfl rfl) rfl rfl ?_
  refine Lp (V_move rfl rfl) rfl rfl ?_
  refine Lsplit 5 (decide (a1 < 0)) [(0, Sl.v a0), (1, .int .i64 a1), (16, .bool ((decide (a1 < 0)) || (decide ((a0.len : Int) < a1))))] ?_ ?_ ?_
  · intro e2 hk2
    refine Ln rfl rfl rfl rfl (.inl (by rw [e2]; rfl)) ?_
    refine Ln rfl rfl rfl rfl (.inl (by rw [e2]; rfl)) ?_
    refine Ln rfl rfl rfl rfl (.inl (by rw [e2]; rfl)) ?_
    refine Ln rfl rfl rfl rfl (.inl (by rw [e2]; rfl)) ?_
    refine Lp (V_pickT rfl (evb e2) rfl) rfl rfl ?_
    exact hk2 _ (FrLe.cons rfl (FrLe.cons rfl (FrLe.cons (by rw [e2]; rfl) (FrLe.nil _))))
  · intro e2 hk2
    refine Lypb (V_move rfl rfl) rfl rfl rfl rfl e2 ?_
    refine Lypb (V_move rfl rfl) rfl rfl rfl rfl e2 ?_
    refine Lypb (V_lenL rfl rfl Tryz.underlying22 rfl rfl) rfl rfl rfl rfl e2 ?_
    refine Lypb (V_gtr rfl rfl rfl) rfl rfl rfl rfl e2 ?_
    refine Lp (V_pickF rfl (evb e2) rfl) rfl rfl ?_
    exact hk2 _ (FrLe.cons rfl (FrLe.cons rfl (FrLe.cons (by rw [e2]; rfl) (FrLe.nil _))))
  intro fr hl
  refine Lfr hl ?_
  refine Lp (V_asg rfl rfl) rfl rfl ?_
  refine Lnil ?_
  refine thenN ?_
  refine AW.iff rfl (bor_iff decide_eq_true_iff decide_eq_true_iff) h (fun h => ?_) (fun h => ?_)
  · refine AW.seq ?_
    refine AW.reg ?_
    refine Lp (V_asg rfl rfl) rfl rfl ?_
    refine Lp (V_asg rfl rfl) rfl rfl ?_
    refine Lp (V_asg rfl rfl) rfl rfl ?_
    refine Lnil ?_
    refine thenN ?_
    refine AW.ret ?_
    refine blockR ?_
    refine thenR ?_
    exact bR3 Tryz.results86 rfl rfl rfl ⟨_, _, _, rfl, h⟩
  refine AW.seq ?_
  refine AW.reg ?_
  refine Lp (V_move rfl rfl) rfl rfl ?_
  refine Lp (V_lenL rfl rfl Tryz.underlying22 rfl rfl) rfl rfl ?_
  refine Lp (V_move rfl rfl) rfl rfl ?_
  refine Lp (V_sub rfl rfl rfl) rfl rfl ?_
  refine Lp (V_lss rfl rfl rfl) rfl rfl ?_
  refine Lp (V_asg rfl rfl) rfl rfl ?_
  refine Lnil ?_
  refine thenN ?_
  refine AW.iff rfl decide_eq_true_iff h (fun h => ?_) (fun h => ?_)
  · refine AW.seq ?_
    refine AW.reg ?_
    refine Lp (V_asg rfl rfl) rfl rfl ?_
    refine Lp (V_asg rfl rfl) rfl rfl ?_
    refine Lp (V_asg rfl rfl) rfl rfl ?_
    refine Lnil ?_
    refine thenN ?_
    refine AW.ret ?_
    refine blockR ?_
    refine thenR ?_
    exact bR3 Tryz.results86 rfl rfl rfl ⟨_, _, _, rfl, h⟩
  refine AW.skip ?_
  refine blockN ?_
  refine thenN ?_
  refine AW.seq ?_
  refine AW.reg ?_
  refine Lp (V_move rfl rfl) rfl rfl ?_
  refine Lp (V_move rfl rfl) rfl rfl ?_
  obtain ⟨hc, h⟩ := h
  refine Lp (V_slL (lo := (some a1)) (hi := none) rfl Tryz.underlying22 ty5 rfl (optI_some rfl) optI_none hc) rfl rfl ?_
  refine Ls rfl rfl (X_call rfl Tryz.func120 rfl rfl rfl (ACalls.mono h ?_))
  rintro v σ ⟨x26_1, rfl, h⟩
  refine Lp (V_asg rfl rfl) rfl rfl ?_
  refine Lnil ?_
  refine thenN ?_
  refine AW.seq ?_
  refine AW.block ?_
  refine AW.seq ?_
  refine AW.reg ?_
  refine Lp (V_move rfl rfl) rfl rfl ?_
  refine Lp (V_gtr rfl rfl rfl) rfl rfl ?_
  refine Lp (V_asg rfl rfl) rfl rfl ?_
  refine Lnil ?_
  refine thenN ?_
  refine AW.iff rfl decide_eq_true_iff h (fun h => ?_) (fun h => ?_)
  · refine AW.seq ?_
    refine AW.reg ?_
    refine Lp (V_asg rfl rfl) rfl rfl ?_
    refine Lp (V_asg rfl rfl) rfl rfl ?_
    refine Lp (V_asg rfl rfl) rfl rfl ?_
    refine Lnil ?_
    refine thenN ?_
    refine AW.ret ?_
    refine blockR ?_
    refine thenR ?_
    exact bR3 Tryz.results86 rfl rfl rfl ⟨_, _, _, rfl, h⟩
  refine AW.seq ?_
  refine AW.reg ?_
  refine Lp (V_move rfl rfl) rfl rfl ?_
  refine Lp (V_lenL rfl rfl Tryz.underlying22 rfl rfl) rfl rfl ?_
  refine Lp (V_move rfl rfl) rfl rfl ?_
  refine Lp (V_sub rfl rfl rfl) rfl rfl ?_
  refine Lp (V_sub rfl rfl rfl) rfl rfl ?_
  refine Lp (V_move rfl rfl) rfl rfl ?_
  refine Lp (V_lss rfl rfl rfl) rfl rfl ?_
  refine Lp (V_asg rfl rfl) rfl rfl ?_
  refine Lnil ?_
  refine thenN ?_
  refine AW.iff rfl decide_eq_true_iff h (fun h => ?_) (fun h => ?_)
  · refine AW.seq ?_
    refine AW.reg ?_
    refine Lp (V_asg rfl rfl) rfl rfl ?_
    refine Lp (V_asg rfl rfl) rfl rfl ?_
    refine Lp (V_asg rfl rfl) rfl rfl ?_
    refine Lnil ?_
    refine thenN ?_
    refine AW.ret ?_
    refine blockR ?_
    refine thenR ?_
    exact bR3 Tryz.results86 rfl rfl rfl ⟨_, _, _, rfl, h⟩
  refine AW.skip ?_
  refine blockN ?_
  refine thenN ?_
  refine AW.seq ?_
  refine AW.reg ?_
  refine Lp (V_move rfl rfl) rfl rfl ?_
  refine Lp (V_move rfl rfl) rfl rfl ?_
  refine Lp (V_add rfl rfl rfl) rfl rfl ?_
  refine Lp (V_move rfl rfl) rfl rfl ?_
  refine Lp (V_add rfl rfl rfl) rfl rfl ?_
  refine Lp (V_move rfl rfl) rfl rfl ?_
  refine Lp (V_add rfl rfl rfl) rfl rfl ?_
  obtain ⟨hc, h⟩ := h
  refine Lp (V_slL (lo := (some (IntKind.i64.wrap (a1 + 8)))) (hi := (some (IntKind.i64.wrap ((IntKind.i64.wrap (a1 + 8)) + x26_1)))) rfl Tryz.underlying22 ty5 rfl (optI_some rfl) (optI_some rfl) hc) rfl rfl ?_
  refine Ls rfl rfl (X_call rfl Tryz.func74 rfl rfl rfl (ACalls.mono h ?_))
  rintro v σ ⟨x46_2, rfl, h⟩
  refine Lp (V_asg rfl rfl) rfl rfl ?_
  refine Lnil ?_
  refine thenN ?_
  refine AW.seq ?_
  refine AW.seq ?_
  refine AW.drawn0 (fun i => ([0, 2, 0, 2, 2, 0, 0, 0, 0, 2, 0] : List Nat).getD i 2) [(1, 3), (1, 4), (1, 9), (3, 4), (3, 9)] [0, 2, 5, 6, 7, 8, 1, 3, 4, 9, 10] Tryz.mixed (by decide +kernel) ?_
  refine Dp rfl rfl rfl rfl (V_move rfl rfl) ?_
  refine Dp rfl rfl rfl rfl (V_move rfl rfl) ?_
  refine Dp rfl rfl rfl rfl (V_move rfl rfl) ?_
  refine Dp rfl rfl rfl rfl (V_move rfl rfl) ?_
  refine Dp rfl rfl rfl rfl (V_add rfl rfl rfl) ?_
  obtain ⟨hc, h⟩ := h
  refine Dp rfl rfl rfl rfl (V_slL (lo := (some (IntKind.i64.wrap (a1 + 4)))) (hi := none) rfl Tryz.underlying22 ty5 rfl (optI_some rfl) optI_none hc) ?_
  refine Dg rfl rfl rfl rfl (X_call rfl Tryz.func104 rfl rfl rfl (ACalls.mono h ?_))
  rintro v σ ⟨x48_3, rfl, h⟩
  refine Dg rfl rfl rfl rfl (X_bi (s := Builtin.append_ #[22, 22] 22 #[Sl.v x48_3, Sl.v x46_2]) rfl rfl (fun _ => rfl) (awp_mono _ h ?_))
  rintro v σ ⟨x50_4, rfl, h⟩
  refine Dg rfl rfl rfl rfl (X_call rfl Tryz.func77 rfl rfl rfl (ACalls.mono h ?_))
  rintro v σ ⟨x51_5, rfl, h⟩
  refine Dg rfl rfl rfl rfl (X_call rfl Tryz.func120 rfl rfl rfl (ACalls.mono h ?_))
  rintro v σ ⟨x56_6, rfl, h⟩
  refine Dp rfl rfl rfl rfl (V_neq rfl rfl rfl) ?_
  refine Dend ?_
  refine thenN ?_
  refine AW.iff rfl (bnot_iff decide_eq_true_iff) h (fun h => ?_) (fun h => ?_)
  · refine AW.seq ?_
    refine AW.reg ?_
    refine Lp (V_asg rfl rfl) rfl rfl ?_
    refine Lp (V_asg rfl rfl) rfl rfl ?_
    refine Lp (V_asg rfl rfl) rfl rfl ?_
    refine Lnil ?_
    refine thenN ?_
    refine AW.ret ?_
    refine thenR ?_
    exact bR3 Tryz.results86 rfl rfl rfl ⟨_, _, _, rfl, h⟩
  refine AW.skip ?_
  refine thenN ?_
  refine AW.seq ?_
  refine AW.reg ?_
  refine Lp (V_move rfl rfl) rfl rfl ?_
  refine Lp (V_move rfl rfl) rfl rfl ?_
  refine Lp (V_add rfl rfl rfl) rfl rfl ?_
  refine Lp (V_move rfl rfl) rfl rfl ?_
  refine Lp (V_add rfl rfl rfl) rfl rfl ?_
  refine Lp (V_asg rfl rfl) rfl rfl ?_
  refine Lp (V_asg rfl rfl) rfl rfl ?_
  refine Lp (V_asg rfl rfl) rfl rfl ?_
  refine Lnil ?_
  refine thenN ?_
  refine AW.ret ?_
  exact bR3 Tryz.results86 rfl rfl rfl ⟨_, _, _, rfl, h⟩

def f_wire_NewReader (B : World) (ro : AH) (a0 : Sl) (σ : AH) (Q : Option Addr → AH → Prop) : Prop :=
 c_bytes_Clone B ro a0 σ fun x4_1 σ =>
 nw ro σ (.cells #[Sl.v x4_1, .int .i64 0] 190) fun x6_2 σ =>
 Q (some ⟨x6_2, 0, none⟩) σ

set_option maxRecDepth 100000 in
set_option maxHeartbeats 4000000 in
theorem wire_NewReader_ok {B : World} {ro : AH} {a0 : Sl} {σ : AH} {Q : Option Addr → AH → Prop} (h : Sep ro σ → f_wire_NewReader B ro a0 σ Q) : c_wire_NewReader B ro a0 σ Q := by
  refine ACalls.of_sep fun hsep => ?_
  replace h := h hsep
  refine ACalls.of_body (args := [Sl.v a0]) Tryz.func87 rfl (by rw [Tryz.ntmps87]; simp) ?_
  rw [Tryz.ntmps87]
  unfold f_wire_NewReader at h
  refine AW.seq ?_
  refine AW.reg ?_
  refine Lp (V_asg rfl rfl) rfl rfl ?_
  refine Lnil ?_
  refine thenN ?_
  refine AW.seq ?_
  refine AW.reg ?_
  refine Lp (V_move rfl rfl) rfl rfl ?_
  refine Ls rfl rfl (X_call rfl Tryz.func74 rfl rfl rfl (ACalls.mono h ?_))
  rintro v σ ⟨x4_1, rfl, h⟩
  refine Lp (V_bld (vs := [(0, Sl.v x4_1)]) (cs := #[Sl.v x4_1, .int .i64 0]) rfl Tryz.underlying190 ty190 pl190 rfl rfl) rfl rfl ?_
  refine Ls rfl rfl (X_new (A_box rfl rfl) fun x6_2 g1 g2 => ?_)
  replace h := h x6_2 g1 g2
  refine Lp (V_asg rfl rfl) rfl rfl ?_
  refine Lnil ?_
  refine thenN ?_
  refine AW.ret ?_
  exact bR1 Tryz.results87 rfl ⟨_, rfl, h⟩

def f_wire_Reader_Num (B : World) (ro : AH) (a0 : Option Addr) (σ : AH) (Q : Int → AH → Prop) : Prop :=
 ∃ p7_1 : Addr, a0 = some p7_1 ∧
 ∃ (x9_2 : Int), acell ro σ (p7_1.add 1) = some (.int .i64 x9_2) ∧
 if ¬ (x9_2 = 0) then
  Q 0 σ
 else
 ∃ p13_3 : Addr, a0 = some p13_3 ∧
 ∃ (x15_4 : Sl), acell ro σ p13_3 = some (Sl.v x15_4) ∧
 c_wire_Number B ro x15_4 0 σ fun x16_5 x16_6 x16_7 σ =>
 ∃ p22_8 : Addr, a0 = some p22_8 ∧
 stN (p22_8.add 1) (fun σ =>
  ∃ p26_9 : Addr, a0 = some p26_9 ∧
  ∃ (x28_10 : Sl), acell ro σ p26_9 = some (Sl.v x28_10) ∧
  cutOk (some x16_6) none x28_10.len x28_10.cap ∧
  ∃ p31_11 : Addr, a0 = some p31_11 ∧
  stN p31_11 (fun σ =>
   Q x16_5 σ) [Sl.v (⟨cutA x28_10.a (Int.toNat x16_6) x28_10.cap 1, x28_10.len - Int.toNat x16_6, x28_10.cap - Int.toNat x16_6⟩ : Sl)] 0 σ) [.int .i64 x16_7] 0 σ

set_option maxRecDepth 100000 in
set_option maxHeartbeats 4000000 in
theorem wire_Reader_Num_ok {B : World} {ro : AH} {a0 : Option Addr} {σ : AH} {Q : Int → AH → Prop} (h : Sep ro σ → f_wire_Reader_Num B ro a0 σ Q) : c_wire_Reader_Num B ro a0 σ Q := by
  refine ACalls.of_sep fun hsep => ?_
  replace h := h hsep
  refine ACalls.of_body (args := [.pointer a0]) Tryz.func88 rfl (by rw [Tryz.ntmps88]; simp) ?_
  rw [Tryz.ntmps88]
  unfold f_wire_Reader_Num at h
  refine AW.seq ?_
  refine AW.reg ?_
  refine Lp (V_asg rfl rfl) rfl rfl ?_
  refine Lnil ?_
  refine thenN ?_
  refine AW.seq ?_
  refine AW.seq ?_
  refine AW.reg ?_
  refine Lp (V_move rfl rfl) rfl rfl ?_
  obtain ⟨p7_1, hc, h⟩ := h
  refine Lp (V_nil rfl (by rw [← hc]; rfl)) rfl rfl ?_
  refine Lp (V_fld rfl Tryz.underlying190 rfl ty27 (by decide) rfl) rfl rfl ?_
  obtain ⟨x9_2, hc, h⟩ := h
  refine Ls rfl rfl (X_ld rfl Tryz.underlying27 rfl rfl hc ?_)
  refine Lp (V_neq rfl rfl rfl) rfl rfl ?_
  refine Lnil ?_
  refine thenN ?_
  refine AW.iff rfl (bnot_iff decide_eq_true_iff) h (fun h => ?_) (fun h => ?_)
  · refine AW.seq ?_
    refine AW.reg ?_
    refine Lp (V_asg rfl rfl) rfl rfl ?_
    refine Lnil ?_
    refine thenN ?_
    refine AW.ret ?_
    refine thenR ?_
    exact bR1 Tryz.results88 rfl ⟨_, rfl, h⟩
  refine AW.skip ?_
  refine thenN ?_
  refine AW.seq ?_
  refine AW.reg ?_
  refine Lp (V_move rfl rfl) rfl rfl ?_
  obtain ⟨p13_3, hc, h⟩ := h
  refine Lp (V_nil rfl (by rw [← hc]; rfl)) rfl rfl ?_
  refine Lp (V_fld rfl Tryz.underlying190 rfl ty22 (by decide) rfl) rfl rfl ?_
  obtain ⟨x15_4, hc, h⟩ := h
  refine Ls rfl rfl (X_ld rfl Tryz.underlying22 rfl rfl hc ?_)
  refine Ls rfl rfl (X_call rfl Tryz.func97 rfl rfl rfl (ACalls.mono h ?_))
  rintro v σ ⟨x16_5, x16_6, x16_7, rfl, h⟩
  refine Lp (V_move rfl rfl) rfl rfl ?_
  refine Lp (V_ext rfl rfl rfl) rfl rfl ?_
  refine Lp (V_ext rfl rfl rfl) rfl rfl ?_
  refine Lp (V_ext rfl rfl rfl) rfl rfl ?_
  refine Lp (V_asg rfl rfl) rfl rfl ?_
  refine Lp (V_asg rfl rfl) rfl rfl ?_
  refine Lp (V_asg rfl rfl) rfl rfl ?_
  refine Lnil ?_
  refine thenN ?_
  refine AW.seq ?_
  refine AW.reg ?_
  refine Lp (V_move rfl rfl) rfl rfl ?_
  refine Lp (V_move rfl rfl) rfl rfl ?_
  obtain ⟨p22_8, hc, h⟩ := h
  refine Lp (V_nil rfl (by rw [← hc]; rfl)) rfl rfl ?_
  refine Lp (V_fld rfl Tryz.underlying190 rfl ty27 (by decide) rfl) rfl rfl ?_
  refine Ls rfl rfl (X_st rfl ty27 rfl rfl rfl rfl (stN_mono h fun σ h => ?_))
  refine Lnil ?_
  refine thenN ?_
  refine AW.seq ?_
  refine AW.reg ?_
  refine Lp (V_move rfl rfl) rfl rfl ?_
  refine Lp (V_move rfl rfl) rfl rfl ?_
  obtain ⟨p26_9, hc, h⟩ := h
  refine Lp (V_nil rfl (by rw [← hc]; rfl)) rfl rfl ?_
  refine Lp (V_fld rfl Tryz.underlying190 rfl ty22 (by decide) rfl) rfl rfl ?_
  obtain ⟨x28_10, hc, h⟩ := h
  refine Ls rfl rfl (X_ld rfl Tryz.underlying22 rfl rfl hc ?_)
  refine Lp (V_move rfl rfl) rfl rfl ?_
  obtain ⟨hc, h⟩ := h
  refine Lp (V_slL (lo := (some x16_6)) (hi := none) rfl Tryz.underlying22 ty5 rfl (optI_some rfl) optI_none hc) rfl rfl ?_
  obtain ⟨p31_11, hc, h⟩ := h
  refine Lp (V_nil rfl (by rw [← hc]; rfl)) rfl rfl ?_
  refine Lp (V_fld rfl Tryz.underlying190 rfl ty22 (by decide) rfl) rfl rfl ?_
  refine Ls rfl rfl (X_st rfl ty22 rfl rfl rfl rfl (stN_mono h fun σ h => ?_))
  refine Lnil ?_
  refine thenN ?_
  refine AW.seq ?_
  refine AW.reg ?_
  refine Lp (V_move rfl rfl) rfl rfl ?_
  refine Lp (V_asg rfl rfl) rfl rfl ?_
  refine Lnil ?_
  refine thenN ?_
  refine AW.ret ?_
  exact bR1 Tryz.results88 rfl ⟨_, rfl, h⟩

def f_wire_Reader_Err (B : World) (ro : AH) (a0 : Option Addr) (σ : AH) (Q : Int → AH → Prop) : Prop :=
 ∃ p4_1 : Addr, a0 = some p4_1 ∧
 ∃ (x6_2 : Int), acell ro σ (p4_1.add 1) = some (.int .i64 x6_2) ∧
 Q x6_2 σ

set_option maxRecDepth 100000 in
set_option maxHeartbeats 4000000 in
theorem wire_Reader_Err_ok {B : World} {ro : AH} {a0 : Option Addr} {σ : AH} {Q : Int → AH → Prop} (h : Sep ro σ → f_wire_Reader_Err B ro a0 σ Q) : c_wire_Reader_Err B ro a0 σ Q := by
  refine ACalls.of_sep fun hsep => ?_
  replace h := h hsep
  refine ACalls.of_body (args := [.pointer a0]) Tryz.func89 rfl (by rw [Tryz.ntmps89]; simp) ?_
  rw [Tryz.ntmps89]
  unfold f_wire_Reader_Err at h
  refine AW.seq ?_
  refine AW.reg ?_
  refine Lp (V_asg rfl rfl) rfl rfl ?_
  refine Lnil ?_
  refine thenN ?_
  refine AW.seq ?_
  refine AW.reg ?_
  refine Lp (V_move rfl rfl) rfl rfl ?_
  obtain ⟨p4_1, hc, h⟩ := h
  refine Lp (V_nil rfl (by rw [← hc]; rfl)) rfl rfl ?_
  refine Lp (V_fld rfl Tryz.underlying190 rfl ty27 (by decide) rfl) rfl rfl ?_
  obtain ⟨x6_2, hc, h⟩ := h
  refine Ls rfl rfl (X_ld rfl Tryz.underlying27 rfl rfl hc ?_)
  refine Lp (V_asg rfl rfl) rfl rfl ?_
  refine Lnil ?_
  refine thenN ?_
  refine AW.ret ?_
  exact bR1 Tryz.results89 rfl ⟨_, rfl, h⟩

def f_wire_Reader_Left (B : World) (ro : AH) (a0 : Option Addr) (σ : AH) (Q : Int → AH → Prop) : Prop :=
 ∃ p4_1 : Addr, a0 = some p4_1 ∧
 ∃ (x6_2 : Sl), acell ro σ p4_1 = some (Sl.v x6_2) ∧
 Q (x6_2.len : Int) σ

set_option maxRecDepth 100000 in
set_option maxHeartbeats 4000000 in
theorem wire_Reader_Left_ok {B : World} {ro : AH} {a0 : Option Addr} {σ : AH} {Q : Int → AH → Prop} (h : Sep ro σ → f_wire_Reader_Left B ro a0 σ Q) : c_wire_Reader_Left B ro a0 σ Q := by
  refine ACalls.of_sep fun hsep => ?_
  replace h := h hsep
  refine ACalls.of_body (args := [.pointer a0]) Tryz.func90 rfl (by rw [Tryz.ntmps90]; simp) ?_
  rw [Tryz.ntmps90]
  unfold f_wire_Reader_Left at h
  refine AW.seq ?_
  refine AW.reg ?_
  refine Lp (V_asg rfl rfl) rfl rfl ?_
  refine Lnil ?_
  refine thenN ?_
  refine AW.seq ?_
  refine AW.reg ?_
  refine Lp (V_move rfl rfl) rfl rfl ?_
  obtain ⟨p4_1, hc, h⟩ := h
  refine Lp (V_nil rfl (by rw [← hc]; rfl)) rfl rfl ?_
  refine Lp (V_fld rfl Tryz.underlying190 rfl ty22 (by decide) rfl) rfl rfl ?_
  obtain ⟨x6_2, hc, h⟩ := h
  refine Ls rfl rfl (X_ld rfl Tryz.underlying22 rfl rfl hc ?_)
  refine Lp (V_lenL rfl rfl Tryz.underlying22 rfl rfl) rfl rfl ?_
  refine Lp (V_asg rfl rfl) rfl rfl ?_
  refine Lnil ?_
  refine thenN ?_
  refine AW.ret ?_
  exact bR1 Tryz.results90 rfl ⟨_, rfl, h⟩

def j1_wire_Number (B : World) (ro : AH) (a0 : Sl) (a1 : Int) (Q : Int → Int → Int → AH → Prop) (σ : AH) : Prop :=
 if 9 ≤ (IntKind.i64.wrap ((a0.len : Int) - a1)) then
  Q 0 0 13 σ
 else
 Q 0 0 12 σ

def j7_wire_Number (B : World) (ro : AH) (a1 : Int) (x4_3 : Int) (x21_4 : Int) (x25_6 : Int) (Q : Int → Int → Int → AH → Prop) (Y2 : (Int × Int) → AH → Prop) (x48_8 : Bool) (σ : AH) : Prop :=
 if x48_8 = true then
  Q 0 0 13 σ
 else
 Q (bitOr .i64 x4_3 (IntKind.i64.wrap ((IntKind.i64.wrap (bitAnd .u8 x25_6 127)) * 2 ^ (min (Int.toNat (IntKind.i64.wrap (7 * x21_4))) 64)))) (IntKind.i64.wrap ((IntKind.i64.wrap (a1 + x21_4)) + 1)) 0 σ

def l2_wire_Number (B : World) (ro : AH) (a0 : Sl) (a1 : Int) (Q : Int → Int → Int → AH → Prop) : (Int × Int) → AH → ((Int × Int) → AH → Prop) → Prop := fun ⟨x4_3, x21_4⟩ σ Y2 =>
 if x21_4 < ((⟨cutA a0.a (Int.toNat a1) a0.cap 1, a0.len - Int.toNat a1, a0.cap - Int.toNat a1⟩ : Sl).len : Int) then
  ∃ p24_5 : Addr, (⟨cutA a0.a (Int.toNat a1) a0.cap 1, a0.len - Int.toNat a1, a0.cap - Int.toNat a1⟩ : Sl).a = some p24_5 ∧ (0 : Int) ≤ x21_4 ∧ x21_4 < ((⟨cutA a0.a (Int.toNat a1) a0.cap 1, a0.len - Int.toNat a1, a0.cap - Int.toNat a1⟩ : Sl).len : Int) ∧
  ∃ (x25_6 : Int), acell ro σ (p24_5.add (Int.toNat x21_4 * 1)) = some (.int .u8 x25_6) ∧
  if x21_4 = 9 then
   j1_wire_Number B ro a0 a1 Q σ
  else
  (0 : Int) ≤ (IntKind.i64.wrap (7 * x21_4)) ∧
  if x25_6 < 128 then
   if (x25_6 = 0) ∧ (0 < x21_4) then
    j7_wire_Number B ro a1 x4_3 x21_4 x25_6 Q Y2 true σ
   else
   c_wire_right B ro (bitOr .i64 x4_3 (IntKind.i64.wrap ((IntKind.i64.wrap (bitAnd .u8 x25_6 127)) * 2 ^ (min (Int.toNat (IntKind.i64.wrap (7 * x21_4))) 64)))) σ fun x46_9 σ =>
   j7_wire_Number B ro a1 x4_3 x21_4 x25_6 Q Y2 (!x46_9) σ
  else
  Y2 (bitOr .i64 x4_3 (IntKind.i64.wrap ((IntKind.i64.wrap (bitAnd .u8 x25_6 127)) * 2 ^ (min (Int.toNat (IntKind.i64.wrap (7 * x21_4))) 64))), IntKind.i64.wrap (x21_4 + 1)) σ
 else
 j1_wire_Number B ro a0 a1 Q σ

def f_wire_Number (B : World) (ro : AH) (a0 : Sl) (a1 : Int) (σ : AH) (Q : Int → Int → Int → AH → Prop) : Prop :=
 if (a1 < 0) ∨ ((a0.len : Int) < a1) then
  Q 0 0 11 σ
 else
 cutOk (some a1) none a0.len a0.cap ∧
 lfpD (l2_wire_Number B ro a0 a1 Q ) (0, 0) σ

set_option maxRecDepth 100000 in
set_option maxHeartbeats 4000000 in
theorem wire_Number_ok {B : World} {ro : AH} {a0 : Sl} {a1 : Int} {σ : AH} {Q : Int → Int → Int → AH → Prop} (h : Sep ro σ → f_wire_Number B ro a0 a1 σ Q) : c_wire_Number B ro a0 a1 σ Q := by
  refine ACalls.of_sep fun hsep => ?_
  replace h := h hsep
  refine ACalls.of_body (args := [Sl.v a0, .int .i64 a1]) Tryz.func97 rfl (by rw [Tryz.ntmps97]; simp) ?_
  rw [Tryz.ntmps97]
  unfold f_wire_Number at h
  refine AW.seq ?_
  refine AW.reg ?_
  refine Lp (V_asg rfl rfl) rfl rfl ?_
  refine Lp (V_asg rfl rfl) rfl rfl ?_
  refine Lp (V_asg rfl rfl) rfl rfl ?_
  refine Lnil ?_
  refine thenN ?_
  refine AW.seq ?_
  refine AW.seq ?_
  refine AW.reg ?_
  refine Lp (V_move rfl rfl) rfl rfl ?_
  refine Lp (V_lss rfl rfl rfl) rfl rfl ?_
  refine Lp (V_move rfl rfl) rfl rfl ?_
  refine Lsplit 5 (decide (a1 < 0)) [(0, Sl.v a0), (1, .int .i64 a1), (4, .int .i64 0), (16, .bool ((decide (a1 < 0)) || (decide ((a0.len : Int) < a1))))] ?_ ?_ ?_
  · intro e2 hk2
    refine Ln rfl rfl rfl rfl (.inl (by rw [e2]; rfl)) ?_
    refine Ln rfl rfl rfl rfl (.inl (by rw [e2]; rfl)) ?_
    refine Ln rfl rfl rfl rfl (.inl (by rw [e2]; rfl)) ?_
    refine Ln rfl rfl rfl rfl (.inl (by rw [e2]; rfl)) ?_
    refine Lp (V_pickT rfl (evb e2) rfl) rfl rfl ?_
    exact hk2 _ (FrLe.cons rfl (FrLe.cons rfl (FrLe.cons rfl (FrLe.cons (by rw [e2]; rfl) (FrLe.nil _)))))
  · intro e2 hk2
    refine Lypb (V_move rfl rfl) rfl rfl rfl rfl e2 ?_
    refine Lypb (V_move rfl rfl) rfl rfl rfl rfl e2 ?_
    refine Lypb (V_lenL rfl rfl Tryz.underlying22 rfl rfl) rfl rfl rfl rfl e2 ?_
    refine Lypb (V_gtr rfl rfl rfl) rfl rfl rfl rfl e2 ?_
    refine Lp (V_pickF rfl (evb e2) rfl) rfl rfl ?_
    exact hk2 _ (FrLe.cons rfl (FrLe.cons rfl (FrLe.cons rfl (FrLe.cons (by rw [e2]; rfl) (FrLe.nil _)))))
  intro fr hl
  refine Lfr hl ?_
  refine Lnil ?_
  refine thenN ?_
  refine AW.iff rfl (bor_iff decide_eq_true_iff decide_eq_true_iff) h (fun h => ?_) (fun h => ?_)
  · refine AW.seq ?_
    refine AW.reg ?_
    refine Lp (V_asg rfl rfl) rfl rfl ?_
    refine Lp (V_asg rfl rfl) rfl rfl ?_
    refine Lp (V_asg rfl rfl) rfl rfl ?_
    refine Lnil ?_
    refine thenN ?_
    refine AW.ret ?_
    refine thenR ?_
    exact bR3 Tryz.results97 rfl rfl rfl ⟨_, _, _, rfl, h⟩
  refine AW.skip ?_
  refine thenN ?_
  refine AW.seqJ (fun fr σ => FrLe [(0, Sl.v a0), (1, .int .i64 a1)] fr ∧ j1_wire_Number B ro a0 a1 Q σ) ?_ ?_
  · rintro fr σ ⟨hl, h⟩
    refine AW.weaken ?_ hl (HLe.refl _)
    unfold j1_wire_Number at h
    refine AW.seq ?_
    refine AW.seq ?_
    refine AW.reg ?_
    refine Lp (V_move rfl rfl) rfl rfl ?_
    refine Lp (V_lenL rfl rfl Tryz.underlying22 rfl rfl) rfl rfl ?_
    refine Lp (V_move rfl rfl) rfl rfl ?_
    refine Lp (V_sub rfl rfl rfl) rfl rfl ?_
    refine Lp (V_geq rfl rfl rfl) rfl rfl ?_
    refine Lnil ?_
    refine thenN ?_
    refine AW.iff rfl decide_eq_true_iff h (fun h => ?_) (fun h => ?_)
    · refine AW.seq ?_
      refine AW.reg ?_
      refine Lp (V_asg rfl rfl) rfl rfl ?_
      refine Lp (V_asg rfl rfl) rfl rfl ?_
      refine Lp (V_asg rfl rfl) rfl rfl ?_
      refine Lnil ?_
      refine thenN ?_
      refine AW.ret ?_
      refine thenR ?_
      exact bR3 Tryz.results97 rfl rfl rfl ⟨_, _, _, rfl, h⟩
    refine AW.skip ?_
    refine thenN ?_
    refine AW.seq ?_
    refine AW.reg ?_
    refine Lp (V_asg rfl rfl) rfl rfl ?_
    refine Lp (V_asg rfl rfl) rfl rfl ?_
    refine Lp (V_asg rfl rfl) rfl rfl ?_
    refine Lnil ?_
    refine thenN ?_
    refine AW.ret ?_
    exact bR3 Tryz.results97 rfl rfl rfl ⟨_, _, _, rfl, h⟩
  refine AW.seq ?_
  refine AW.reg ?_
  refine Lp (V_move rfl rfl) rfl rfl ?_
  refine Lp (V_move rfl rfl) rfl rfl ?_
  obtain ⟨hc, h⟩ := h
  refine Lp (V_slL (lo := (some a1)) (hi := none) rfl Tryz.underlying22 ty5 rfl (optI_some rfl) optI_none hc) rfl rfl ?_
  refine Lp (V_lenL rfl rfl Tryz.underlying22 rfl rfl) rfl rfl ?_
  refine Lp (V_move rfl rfl) rfl rfl ?_
  refine Lnil ?_
  refine thenN ?_
  refine AW.block ?_
  refine ARound.loop (fr' := [(0, Sl.v a0), (1, .int .i64 a1), (19, Sl.v (⟨cutA a0.a (Int.toNat a1) a0.cap 1, a0.len - Int.toNat a1, a0.cap - Int.toNat a1⟩ : Sl)), (20, .int .i64 ((⟨cutA a0.a (Int.toNat a1) a0.cap 1, a0.len - Int.toNat a1, a0.cap - Int.toNat a1⟩ : Sl).len : Int)), (4, .int .i64 0), (21, .int .i64 0)]) ?_ (FrLe.cons rfl (FrLe.cons rfl (FrLe.cons rfl (FrLe.cons rfl (FrLe.cons rfl (FrLe.cons rfl (FrLe.nil _)))))))
  refine h (fun ⟨x4_3, x21_4⟩ σ => ARound _ _ _ _ _ _ [(0, Sl.v a0), (1, .int .i64 a1), (19, Sl.v (⟨cutA a0.a (Int.toNat a1) a0.cap 1, a0.len - Int.toNat a1, a0.cap - Int.toNat a1⟩ : Sl)), (20, .int .i64 ((⟨cutA a0.a (Int.toNat a1) a0.cap 1, a0.len - Int.toNat a1, a0.cap - Int.toNat a1⟩ : Sl).len : Int)), (4, .int .i64 x4_3), (21, .int .i64 x21_4)] σ) ?_
  rintro ⟨x4_3, x21_4⟩ σ Y2 hY2 h
  show AW _ _ _ _ _ _ _ _
  unfold l2_wire_Number at h
  dsimp only at h
  refine AW.seq ?_
  refine AW.reg ?_
  refine Lp (V_lss rfl rfl rfl) rfl rfl ?_
  refine Lnil ?_
  refine thenN ?_
  refine AW.seq ?_
  refine AW.iff rfl decide_eq_true_iff h (fun h => ?_) (fun h => ?_)
  rotate_left
  · refine AW.exit ?_
    refine thenE ?_
    refine thenE ?_
    refine blockE ?_
    refine thenN ?_
    exact ⟨(FrLe.cons rfl (FrLe.cons rfl (FrLe.nil _))), h⟩
  refine AW.skip ?_
  refine thenN ?_
  refine AW.seq ?_
  refine AW.block ?_
  refine AW.seq ?_
  refine AW.reg ?_
  refine Lp (V_move rfl rfl) rfl rfl ?_
  obtain ⟨p24_5, ha, h0, h1, h⟩ := h
  refine Lp (V_ixA rfl Tryz.underlying22 ty5 (ixL rfl ha) rfl h0 h1) rfl rfl ?_
  obtain ⟨x25_6, hc, h⟩ := h
  refine Ls rfl rfl (X_ld rfl Tryz.underlying5 rfl rfl hc ?_)
  refine Lp (V_asg rfl rfl) rfl rfl ?_
  refine Lp (V_asg rfl rfl) rfl rfl ?_
  refine Lnil ?_
  refine thenN ?_
  refine AW.seq ?_
  refine AW.seq ?_
  refine AW.reg ?_
  refine Lp (V_move rfl rfl) rfl rfl ?_
  refine Lp (V_eql rfl rfl rfl) rfl rfl ?_
  refine Lnil ?_
  refine thenN ?_
  refine AW.iff rfl decide_eq_true_iff h (fun h => ?_) (fun h => ?_)
  · refine AW.exit ?_
    refine thenE ?_
    refine blockO rfl ?_
    refine thenE ?_
    refine thenE ?_
    refine blockE ?_
    refine thenN ?_
    exact ⟨(FrLe.cons rfl (FrLe.cons rfl (FrLe.nil _))), h⟩
  refine AW.skip ?_
  refine thenN ?_
  refine AW.seq ?_
  refine AW.reg ?_
  refine Lp (V_move rfl rfl) rfl rfl ?_
  refine Lp (V_move rfl rfl) rfl rfl ?_
  refine Lp (V_and rfl rfl rfl) rfl rfl ?_
  refine Lp (V_cvt rfl rfl Tryz.underlying5 Tryz.underlying3) rfl rfl ?_
  refine Lp (V_move rfl rfl) rfl rfl ?_
  refine Lp (V_mul rfl rfl rfl) rfl rfl ?_
  obtain ⟨hc, h⟩ := h
  refine Lp (V_shl rfl rfl rfl hc) rfl rfl ?_
  refine Lp (V_or rfl rfl rfl) rfl rfl ?_
  refine Lp (V_asg rfl rfl) rfl rfl ?_
  refine Lnil ?_
  refine thenN ?_
  refine AW.seq ?_
  refine AW.reg ?_
  refine Lp (V_move rfl rfl) rfl rfl ?_
  refine Lp (V_lss rfl rfl rfl) rfl rfl ?_
  refine Lnil ?_
  refine thenN ?_
  refine AW.iff rfl decide_eq_true_iff h (fun h => ?_) (fun h => ?_)
  rotate_left
  · refine AW.skip ?_
    refine blockN ?_
    refine thenN ?_
    refine AW.reg ?_
    refine Lp (V_add rfl rfl rfl) rfl rfl ?_
    refine Lp (V_move rfl rfl) rfl rfl ?_
    refine Lnil ?_
    refine thenN ?_
    refine ARound.head (fr' := [(0, Sl.v a0), (1, .int .i64 a1), (19, Sl.v (⟨cutA a0.a (Int.toNat a1) a0.cap 1, a0.len - Int.toNat a1, a0.cap - Int.toNat a1⟩ : Sl)), (20, .int .i64 ((⟨cutA a0.a (Int.toNat a1) a0.cap 1, a0.len - Int.toNat a1, a0.cap - Int.toNat a1⟩ : Sl).len : Int)), (4, .int .i64 (bitOr .i64 x4_3 (IntKind.i64.wrap ((IntKind.i64.wrap (bitAnd .u8 x25_6 127)) * 2 ^ (min (Int.toNat (IntKind.i64.wrap (7 * x21_4))) 64))))), (21, .int .i64 (IntKind.i64.wrap (x21_4 + 1)))]) ?_ (FrLe.cons rfl (FrLe.cons rfl (FrLe.cons rfl (FrLe.cons rfl (FrLe.cons rfl (FrLe.cons rfl (FrLe.nil _)))))))
    exact hY2 _ _ h
  refine AW.seq ?_
  refine AW.seq ?_
  refine AW.reg ?_
  refine Lp (V_move rfl rfl) rfl rfl ?_
  refine Lp (V_eql rfl rfl rfl) rfl rfl ?_
  refine Lp (V_move rfl rfl) rfl rfl ?_
  refine Lsplit 3 (decide (x25_6 = 0)) [(1, .int .i64 a1), (4, .int .i64 (bitOr .i64 x4_3 (IntKind.i64.wrap ((IntKind.i64.wrap (bitAnd .u8 x25_6 127)) * 2 ^ (min (Int.toNat (IntKind.i64.wrap (7 * x21_4))) 64))))), (7, .int .i64 x21_4), (43, .bool ((decide (x25_6 = 0)) && (decide (0 < x21_4))))] ?_ ?_ ?_
  · intro e2 hk2
    refine Lypb (V_move rfl rfl) rfl rfl rfl rfl e2 ?_
    refine Lypb (V_gtr rfl rfl rfl) rfl rfl rfl rfl e2 ?_
    refine Lp (V_pickT rfl (evb e2) rfl) rfl rfl ?_
    exact hk2 _ (FrLe.cons rfl (FrLe.cons rfl (FrLe.cons rfl (FrLe.cons (by rw [e2]; rfl) (FrLe.nil _)))))
  · intro e2 hk2
    refine Ln rfl rfl rfl rfl (.inl (by rw [e2]; rfl)) ?_
    refine Ln rfl rfl rfl rfl (.inl (by rw [e2]; rfl)) ?_
    refine Lp (V_pickF rfl (evb e2) rfl) rfl rfl ?_
    exact hk2 _ (FrLe.cons rfl (FrLe.cons rfl (FrLe.cons rfl (FrLe.cons (by rw [e2]; rfl) (FrLe.nil _)))))
  intro fr hl
  refine Lfr hl ?_
  refine Lp (V_move rfl rfl) rfl rfl ?_
  refine LsplitJ 4 ((decide (x25_6 = 0)) && (decide (0 < x21_4))) (band_iff decide_eq_true_iff decide_eq_true_iff) h (fun fr σ => ∃ (x48_8 : Bool), FrLe [(1, .int .i64 a1), (4, .int .i64 (bitOr .i64 x4_3 (IntKind.i64.wrap ((IntKind.i64.wrap (bitAnd .u8 x25_6 127)) * 2 ^ (min (Int.toNat (IntKind.i64.wrap (7 * x21_4))) 64))))), (7, .int .i64 x21_4), (48, .bool x48_8)] fr ∧ j7_wire_Number B ro a1 x4_3 x21_4 x25_6 Q Y2 x48_8 σ) ?_ ?_ ?_
  · intro h e6 hk6
    refine Ln rfl rfl rfl rfl (.inl (by rw [e6]; rfl)) ?_
    refine Ln rfl rfl rfl rfl (.inl (by rw [e6]; rfl)) ?_
    refine Ln rfl rfl rfl rfl (.inl (by rw [e6]; rfl)) ?_
    refine Lp (V_pickT rfl (evb e6) rfl) rfl rfl ?_
    exact hk6 _ _ ⟨_, (FrLe.cons rfl (FrLe.cons rfl (FrLe.cons rfl (FrLe.cons rfl (FrLe.nil _))))), h⟩
  · intro h e6 hk6
    refine Lypb (V_move rfl rfl) rfl rfl rfl rfl e6 ?_
    refine Lyb rfl rfl rfl rfl e6 (X_call rfl Tryz.func102 rfl rfl rfl (ACalls.mono h ?_))
    rintro v σ ⟨x46_9, rfl, h⟩
    refine Lypb (V_not rfl rfl) rfl rfl rfl rfl e6 ?_
    refine Lp (V_pickF rfl (evb e6) rfl) rfl rfl ?_
    exact hk6 _ _ ⟨_, (FrLe.cons rfl (FrLe.cons rfl (FrLe.cons rfl (FrLe.cons rfl (FrLe.nil _))))), h⟩
  rintro fr σ ⟨x48_8, hl, h⟩
  unfold j7_wire_Number at h
  refine Lfr hl ?_
  refine Lnil ?_
  refine thenN ?_
  refine AW.iff rfl Iff.rfl h (fun h => ?_) (fun h => ?_)
  · refine AW.seq ?_
    refine AW.reg ?_
    refine Lp (V_asg rfl rfl) rfl rfl ?_
    refine Lp (V_asg rfl rfl) rfl rfl ?_
    refine Lp (V_asg rfl rfl) rfl rfl ?_
    refine Lnil ?_
    refine thenN ?_
    refine AW.ret ?_
    refine thenR ?_
    refine blockR ?_
    refine thenR ?_
    refine thenR ?_
    refine blockR ?_
    refine thenR ?_
    exact bR3 Tryz.results97 rfl rfl rfl ⟨_, _, _, rfl, h⟩
  refine AW.skip ?_
  refine thenN ?_
  refine AW.seq ?_
  refine AW.reg ?_
  refine Lp (V_move rfl rfl) rfl rfl ?_
  refine Lp (V_move rfl rfl) rfl rfl ?_
  refine Lp (V_move rfl rfl) rfl rfl ?_
  refine Lp (V_add rfl rfl rfl) rfl rfl ?_
  refine Lp (V_add rfl rfl rfl) rfl rfl ?_
  refine Lp (V_asg rfl rfl) rfl rfl ?_
  refine Lp (V_asg rfl rfl) rfl rfl ?_
  refine Lp (V_asg rfl rfl) rfl rfl ?_
  refine Lnil ?_
  refine thenN ?_
  refine AW.ret ?_
  refine blockR ?_
  refine thenR ?_
  refine thenR ?_
  refine blockR ?_
  refine thenR ?_
  exact bR3 Tryz.results97 rfl rfl rfl ⟨_, _, _, rfl, h⟩

def f_wire_right (B : World) (ro : AH) (a0 : Int) (σ : AH) (Q : Bool → AH → Prop) : Prop :=
 Q ((decide (0 ≤ a0)) && (decide (a0 ≤ 4611686018427387903))) σ

set_option maxRecDepth 100000 in
set_option maxHeartbeats 4000000 in
theorem wire_right_ok {B : World} {ro : AH} {a0 : Int} {σ : AH} {Q : Bool → AH → Prop} (h : Sep ro σ → f_wire_right B ro a0 σ Q) : c_wire_right B ro a0 σ Q := by
  refine ACalls.of_sep fun hsep => ?_
  replace h := h hsep
  refine ACalls.of_body (args := [.int .i64 a0]) Tryz.func102 rfl (by rw [Tryz.ntmps102]; simp) ?_
  rw [Tryz.ntmps102]
  unfold f_wire_right at h
  refine AW.seq ?_
  refine AW.reg ?_
  refine Lp (V_asg rfl rfl) rfl rfl ?_
  refine Lnil ?_
  refine thenN ?_
  refine AW.seq ?_
  refine AW.reg ?_
  refine Lp (V_move rfl rfl) rfl rfl ?_
  refine Lp (V_geq rfl rfl rfl) rfl rfl ?_
  refine Lp (V_move rfl rfl) rfl rfl ?_
  refine Lsplit 3 (decide (0 ≤ a0)) [(8, .bool ((decide (0 ≤ a0)) && (decide (a0 ≤ 4611686018427387903))))] ?_ ?_ ?_
  · intro e2 hk2
    refine Lypb (V_move rfl rfl) rfl rfl rfl rfl e2 ?_
    refine Lypb (V_leq rfl rfl rfl) rfl rfl rfl rfl e2 ?_
    refine Lp (V_pickT rfl (evb e2) rfl) rfl rfl ?_
    exact hk2 _ (FrLe.cons (by rw [e2]; rfl) (FrLe.nil _))
  · intro e2 hk2
    refine Ln rfl rfl rfl rfl (.inl (by rw [e2]; rfl)) ?_
    refine Ln rfl rfl rfl rfl (.inl (by rw [e2]; rfl)) ?_
    refine Lp (V_pickF rfl (evb e2) rfl) rfl rfl ?_
    exact hk2 _ (FrLe.cons (by rw [e2]; rfl) (FrLe.nil _))
  intro fr hl
  refine Lfr hl ?_
  refine Lp (V_asg rfl rfl) rfl rfl ?_
  refine Lnil ?_
  refine thenN ?_
  refine AW.ret ?_
  exact bR1 Tryz.results102 rfl ⟨_, rfl, h⟩

def j1_wire_put (B : World) (ro : AH) (Q : Sl → AH → Prop) (x0_2 : Sl) (x1_3 : Int) (σ : AH) : Prop :=
 nw ro σ (.cells #[.int .u8 (IntKind.u8.wrap x1_3)] 5) fun x18_4 σ =>
 awp Tryz.prog ro (Builtin.append_ #[22, 22] 22 #[Sl.v x0_2, Sl.v (⟨some ⟨x18_4, 0, none⟩, 1, 1⟩ : Sl)]) (fun v σ => ∃ (x19_5 : Sl), v = Sl.v x19_5 ∧
  Q x19_5 σ) σ

def l6_wire_put (B : World) (ro : AH) (Q : Sl → AH → Prop) : (Sl × Int) → AH → ((Sl × Int) → AH → Prop) → Prop := fun ⟨x0_7, x1_8⟩ σ Y6 =>
 if 128 ≤ x1_8 then
  nw ro σ (.cells #[.int .u8 (bitOr .u8 (IntKind.u8.wrap x1_8) 128)] 5) fun x13_9 σ =>
  awp Tryz.prog ro (Builtin.append_ #[22, 22] 22 #[Sl.v x0_7, Sl.v (⟨some ⟨x13_9, 0, none⟩, 1, 1⟩ : Sl)]) (fun v σ => ∃ (x14_10 : Sl), v = Sl.v x14_10 ∧
   Y6 (x14_10, Int.fdiv x1_8 (2 ^ (min (Int.toNat 7) 64))) σ) σ
 else
 j1_wire_put B ro Q x0_7 x1_8 σ

def f_wire_put (B : World) (ro : AH) (a0 : Sl) (a1 : Int) (σ : AH) (Q : Sl → AH → Prop) : Prop :=
 lfpD (l6_wire_put B ro Q ) (a0, a1) σ

set_option maxRecDepth 100000 in
set_option maxHeartbeats 4000000 in
theorem wire_put_ok {B : World} {ro : AH} {a0 : Sl} {a1 : Int} {σ : AH} {Q : Sl → AH → Prop} (h : Sep ro σ → f_wire_put B ro a0 a1 σ Q) : c_wire_put B ro a0 a1 σ Q := by
  refine ACalls.of_sep fun hsep => ?_
  replace h := h hsep
  refine ACalls.of_body (args := [Sl.v a0, .int .i64 a1]) Tryz.func103 rfl (by rw [Tryz.ntmps103]; simp) ?_
  rw [Tryz.ntmps103]
  unfold f_wire_put at h
  refine AW.seq ?_
  refine AW.reg ?_
  refine Lp (V_asg rfl rfl) rfl rfl ?_
  refine Lnil ?_
  refine thenN ?_
  refine AW.seqJ (fun fr σ => ∃ (x0_2 : Sl) (x1_3 : Int), FrLe [(0, Sl.v x0_2), (1, .int .i64 x1_3)] fr ∧ j1_wire_put B ro Q x0_2 x1_3 σ) ?_ ?_
  · rintro fr σ ⟨x0_2, x1_3, hl, h⟩
    refine AW.weaken ?_ hl (HLe.refl _)
    unfold j1_wire_put at h
    refine AW.seq ?_
    refine AW.reg ?_
    refine Lp (V_move rfl rfl) rfl rfl ?_
    refine Lp (V_move rfl rfl) rfl rfl ?_
    refine Lp (V_cvt rfl rfl Tryz.underlying3 Tryz.underlying5) rfl rfl ?_
    refine Ls rfl rfl (X_new (A_bsl (vs := [(0, .int .u8 (IntKind.u8.wrap x1_3))]) (cs := #[.int .u8 (IntKind.u8.wrap x1_3)]) rfl Tryz.underlying22 ty5 (by decide) rfl rfl) fun x18_4 g1 g2 => ?_)
    replace h := h x18_4 g1 g2
    refine Ls rfl rfl (X_bi (s := Builtin.append_ #[22, 22] 22 #[Sl.v x0_2, Sl.v (⟨some ⟨x18_4, 0, none⟩, 1, 1⟩ : Sl)]) rfl rfl (fun _ => rfl) (awp_mono _ h ?_))
    rintro v σ ⟨x19_5, rfl, h⟩
    refine Lp (V_asg rfl rfl) rfl rfl ?_
    refine Lnil ?_
    refine thenN ?_
    refine AW.ret ?_
    exact bR1 Tryz.results103 rfl ⟨_, rfl, h⟩
  refine AW.block ?_
  refine ARound.loop (fr' := [(0, Sl.v a0), (1, .int .i64 a1)]) ?_ (FrLe.cons rfl (FrLe.cons rfl (FrLe.nil _)))
  refine h (fun ⟨x0_7, x1_8⟩ σ => ARound _ _ _ _ _ _ [(0, Sl.v x0_7), (1, .int .i64 x1_8)] σ) ?_
  rintro ⟨x0_7, x1_8⟩ σ Y6 hY6 h
  show AW _ _ _ _ _ _ _ _
  unfold l6_wire_put at h
  dsimp only at h
  refine AW.seq ?_
  refine AW.seq ?_
  refine AW.reg ?_
  refine Lp (V_move rfl rfl) rfl rfl ?_
  refine Lp (V_geq rfl rfl rfl) rfl rfl ?_
  refine Lnil ?_
  refine thenN ?_
  refine AW.iff rfl decide_eq_true_iff h (fun h => ?_) (fun h => ?_)
  rotate_left
  · refine AW.exit ?_
    refine thenE ?_
    refine thenE ?_
    refine blockE ?_
    refine thenN ?_
    exact ⟨_, _, (FrLe.cons rfl (FrLe.cons rfl (FrLe.nil _))), h⟩
  refine AW.skip ?_
  refine thenN ?_
  refine AW.seq ?_
  refine AW.block ?_
  refine AW.reg ?_
  refine Lp (V_move rfl rfl) rfl rfl ?_
  refine Lp (V_move rfl rfl) rfl rfl ?_
  refine Lp (V_cvt rfl rfl Tryz.underlying3 Tryz.underlying5) rfl rfl ?_
  refine Lp (V_or rfl rfl rfl) rfl rfl ?_
  refine Ls rfl rfl (X_new (A_bsl (vs := [(0, .int .u8 (bitOr .u8 (IntKind.u8.wrap x1_8) 128))]) (cs := #[.int .u8 (bitOr .u8 (IntKind.u8.wrap x1_8) 128)]) rfl Tryz.underlying22 ty5 (by decide) rfl rfl) fun x13_9 g1 g2 => ?_)
  replace h := h x13_9 g1 g2
  refine Ls rfl rfl (X_bi (s := Builtin.append_ #[22, 22] 22 #[Sl.v x0_7, Sl.v (⟨some ⟨x13_9, 0, none⟩, 1, 1⟩ : Sl)]) rfl rfl (fun _ => rfl) (awp_mono _ h ?_))
  rintro v σ ⟨x14_10, rfl, h⟩
  refine Lp (V_asg rfl rfl) rfl rfl ?_
  refine Lnil ?_
  refine blockN ?_
  refine thenN ?_
  refine AW.reg ?_
  refine Lp (V_move rfl rfl) rfl rfl ?_
  refine Lp (V_shr rfl rfl rfl (by decide)) rfl rfl ?_
  refine Lp (V_asg rfl rfl) rfl rfl ?_
  refine Lnil ?_
  refine thenN ?_
  refine ARound.head (fr' := [(0, Sl.v x14_10), (1, .int .i64 (Int.fdiv x1_8 (2 ^ (min (Int.toNat 7) 64))))]) ?_ (FrLe.cons rfl (FrLe.cons rfl (FrLe.nil _)))
  exact hY6 _ _ h

def f_wire_four (B : World) (ro : AH) (a0 : Int) (σ : AH) (Q : Sl → AH → Prop) : Prop :=
 nw ro σ (.cells #[.int .u8 (IntKind.u8.wrap a0), .int .u8 (IntKind.u8.wrap (Int.fdiv a0 (2 ^ (min (Int.toNat 8) 64)))), .int .u8 (IntKind.u8.wrap (Int.fdiv a0 (2 ^ (min (Int.toNat 16) 64)))), .int .u8 (IntKind.u8.wrap (Int.fdiv a0 (2 ^ (min (Int.toNat 24) 64))))] 5) fun x14_1 σ =>
 Q (⟨some ⟨x14_1, 0, none⟩, 4, 4⟩ : Sl) σ

set_option maxRecDepth 100000 in
set_option maxHeartbeats 4000000 in
theorem wire_four_ok {B : World} {ro : AH} {a0 : Int} {σ : AH} {Q : Sl → AH → Prop} (h : Sep ro σ → f_wire_four B ro a0 σ Q) : c_wire_four B ro a0 σ Q := by
  refine ACalls.of_sep fun hsep => ?_
  replace h := h hsep
  refine ACalls.of_body (args := [.int .i64 a0]) Tryz.func104 rfl (by rw [Tryz.ntmps104]; simp) ?_
  rw [Tryz.ntmps104]
  unfold f_wire_four at h
  refine AW.seq ?_
  refine AW.reg ?_
  refine Lp (V_asg rfl rfl) rfl rfl ?_
  refine Lnil ?_
  refine thenN ?_
  refine AW.seq ?_
  refine AW.reg ?_
  refine Lp (V_move rfl rfl) rfl rfl ?_
  refine Lp (V_cvt rfl rfl Tryz.underlying3 Tryz.underlying5) rfl rfl ?_
  refine Lp (V_move rfl rfl) rfl rfl ?_
  refine Lp (V_shr rfl rfl rfl (by decide)) rfl rfl ?_
  refine Lp (V_cvt rfl rfl Tryz.underlying3 Tryz.underlying5) rfl rfl ?_
  refine Lp (V_move rfl rfl) rfl rfl ?_
  refine Lp (V_shr rfl rfl rfl (by decide)) rfl rfl ?_
  refine Lp (V_cvt rfl rfl Tryz.underlying3 Tryz.underlying5) rfl rfl ?_
  refine Lp (V_move rfl rfl) rfl rfl ?_
  refine Lp (V_shr rfl rfl rfl (by decide)) rfl rfl ?_
  refine Lp (V_cvt rfl rfl Tryz.underlying3 Tryz.underlying5) rfl rfl ?_
  refine Ls rfl rfl (X_new (A_bsl (vs := [(0, .int .u8 (IntKind.u8.wrap a0)), (1, .int .u8 (IntKind.u8.wrap (Int.fdiv a0 (2 ^ (min (Int.toNat 8) 64))))), (2, .int .u8 (IntKind.u8.wrap (Int.fdiv a0 (2 ^ (min (Int.toNat 16) 64))))), (3, .int .u8 (IntKind.u8.wrap (Int.fdiv a0 (2 ^ (min (Int.toNat 24) 64)))))]) (cs := #[.int .u8 (IntKind.u8.wrap a0), .int .u8 (IntKind.u8.wrap (Int.fdiv a0 (2 ^ (min (Int.toNat 8) 64)))), .int .u8 (IntKind.u8.wrap (Int.fdiv a0 (2 ^ (min (Int.toNat 16) 64)))), .int .u8 (IntKind.u8.wrap (Int.fdiv a0 (2 ^ (min (Int.toNat 24) 64))))]) rfl Tryz.underlying22 ty5 (by decide) rfl rfl) fun x14_1 g1 g2 => ?_)
  replace h := h x14_1 g1 g2
  refine Lp (V_asg rfl rfl) rfl rfl ?_
  refine Lnil ?_
  refine thenN ?_
  refine AW.ret ?_
  exact bR1 Tryz.results104 rfl ⟨_, rfl, h⟩

def f_wire_value (B : World) (ro : AH) (a0 : Sl) (σ : AH) (Q : Int → AH → Prop) : Prop :=
 ∃ p4_1 : Addr, a0.a = some p4_1 ∧ (0 : Int) ≤ 0 ∧ 0 < (a0.len : Int) ∧
 ∃ p8_2 : Addr, a0.a = some p8_2 ∧ (0 : Int) ≤ 1 ∧ 1 < (a0.len : Int) ∧
 ∃ p14_3 : Addr, a0.a = some p14_3 ∧ (0 : Int) ≤ 2 ∧ 2 < (a0.len : Int) ∧
 ∃ p20_4 : Addr, a0.a = some p20_4 ∧ (0 : Int) ≤ 3 ∧ 3 < (a0.len : Int) ∧
 ∃ (x5_5 : Int), acell ro σ (p4_1.add (Int.toNat 0 * 1)) = some (.int .u8 x5_5) ∧
 ∃ (x9_6 : Int), acell ro σ (p8_2.add (Int.toNat 1 * 1)) = some (.int .u8 x9_6) ∧
 ∃ (x15_7 : Int), acell ro σ (p14_3.add (Int.toNat 2 * 1)) = some (.int .u8 x15_7) ∧
 ∃ (x21_8 : Int), acell ro σ (p20_4.add (Int.toNat 3 * 1)) = some (.int .u8 x21_8) ∧
 Q (bitOr .i64 (bitOr .i64 (bitOr .i64 (IntKind.i64.wrap x5_5) (IntKind.i64.wrap ((IntKind.i64.wrap x9_6) * 2 ^ (min (Int.toNat 8) 64)))) (IntKind.i64.wrap ((IntKind.i64.wrap x15_7) * 2 ^ (min (Int.toNat 16) 64)))) (IntKind.i64.wrap ((IntKind.i64.wrap x21_8) * 2 ^ (min (Int.toNat 24) 64)))) σ

set_option maxRecDepth 100000 in
set_option maxHeartbeats 4000000 in
theorem wire_value_ok {B : World} {ro : AH} {a0 : Sl} {σ : AH} {Q : Int → AH → Prop} (h : Sep ro σ → f_wire_value B ro a0 σ Q) : c_wire_value B ro a0 σ Q := by
  refine ACalls.of_sep fun hsep => ?_
  replace h := h hsep
  refine ACalls.of_body (args := [Sl.v a0]) Tryz.func120 rfl (by rw [Tryz.ntmps120]; simp) ?_
  rw [Tryz.ntmps120]
  unfold f_wire_value at h
  refine AW.seq ?_
  refine AW.reg ?_
  refine Lp (V_asg rfl rfl) rfl rfl ?_
  refine Lnil ?_
  refine thenN ?_
  refine AW.seq ?_
  refine AW.drawn0 (fun i => ([0, 0, 3, 0, 0, 0, 3, 0, 0, 0, 0, 0, 3, 0, 0, 0, 0, 0, 3, 0, 0, 0, 0] : List Nat).getD i 2) [] [0, 1, 4, 5, 10, 11, 16, 17, 2, 3, 6, 7, 8, 9, 12, 13, 14, 15, 18, 19, 20, 21, 22] Tryz.mixed (by decide +kernel) ?_
  refine Dp rfl rfl rfl rfl (V_move rfl rfl) ?_
  obtain ⟨p4_1, ha, h0, h1, h⟩ := h
  refine Dp rfl rfl rfl rfl (V_ixA rfl Tryz.underlying22 ty5 (ixL rfl ha) rfl h0 h1) ?_
  refine Dp rfl rfl rfl rfl (V_move rfl rfl) ?_
  obtain ⟨p8_2, ha, h0, h1, h⟩ := h
  refine Dp rfl rfl rfl rfl (V_ixA rfl Tryz.underlying22 ty5 (ixL rfl ha) rfl h0 h1) ?_
  refine Dp rfl rfl rfl rfl (V_move rfl rfl) ?_
  obtain ⟨p14_3, ha, h0, h1, h⟩ := h
  refine Dp rfl rfl rfl rfl (V_ixA rfl Tryz.underlying22 ty5 (ixL rfl ha) rfl h0 h1) ?_
  refine Dp rfl rfl rfl rfl (V_move rfl rfl) ?_
  obtain ⟨p20_4, ha, h0, h1, h⟩ := h
  refine Dp rfl rfl rfl rfl (V_ixA rfl Tryz.underlying22 ty5 (ixL rfl ha) rfl h0 h1) ?_
  obtain ⟨x5_5, hc, h⟩ := h
  refine Dr rfl rfl rfl rfl (R_ld rfl Tryz.underlying5 rfl rfl hc) ?_
  refine Dp rfl rfl rfl rfl (V_cvt rfl rfl Tryz.underlying5 Tryz.underlying3) ?_
  obtain ⟨x9_6, hc, h⟩ := h
  refine Dr rfl rfl rfl rfl (R_ld rfl Tryz.underlying5 rfl rfl hc) ?_
  refine Dp rfl rfl rfl rfl (V_cvt rfl rfl Tryz.underlying5 Tryz.underlying3) ?_
  refine Dp rfl rfl rfl rfl (V_shl rfl rfl rfl (by decide)) ?_
  refine Dp rfl rfl rfl rfl (V_or rfl rfl rfl) ?_
  obtain ⟨x15_7, hc, h⟩ := h
  refine Dr rfl rfl rfl rfl (R_ld rfl Tryz.underlying5 rfl rfl hc) ?_
  refine Dp rfl rfl rfl rfl (V_cvt rfl rfl Tryz.underlying5 Tryz.underlying3) ?_
  refine Dp rfl rfl rfl rfl (V_shl rfl rfl rfl (by decide)) ?_
  refine Dp rfl rfl rfl rfl (V_or rfl rfl rfl) ?_
  obtain ⟨x21_8, hc, h⟩ := h
  refine Dr rfl rfl rfl rfl (R_ld rfl Tryz.underlying5 rfl rfl hc) ?_
  refine Dp rfl rfl rfl rfl (V_cvt rfl rfl Tryz.underlying5 Tryz.underlying3) ?_
  refine Dp rfl rfl rfl rfl (V_shl rfl rfl rfl (by decide)) ?_
  refine Dp rfl rfl rfl rfl (V_or rfl rfl rfl) ?_
  refine Dp rfl rfl rfl rfl (V_asg rfl rfl) ?_
  refine Dend ?_
  refine thenN ?_
  refine AW.ret ?_
  exact bR1 Tryz.results120 rfl ⟨_, rfl, h⟩

end Go.Proofs.YtfobjidchipdaaaGreatDoor.G

/- The wire, the walk: a writer. -/
namespace Go.Proofs.YtfobjidchipdaaaGreatDoor.Wi
open Go Go.Proofs.YtfobjidchipdaaaGreatDoor.SL Go.Proofs.YtfobjidchipdaaaGreatDoor.G Go.Proofs.YtfobjidchipdaaaGreatDoor.Zt
set_option linter.unusedSimpArgs false
set_option linter.unusedVariables false
variable {B : World} {ro σ σ' : AH} {tag tag' : Nat → Nat}

theorem u8or (n : Nat) : bitOr .u8 (IntKind.u8.wrap (n : Int)) 128 = ((n % 128 + 128 : Nat) : Int) := by
  have h : ∀ c : Fin 256, bitOr .u8 ((c.val : Nat) : Int) 128 = ((c.val % 128 + 128 : Nat) : Int) := by decide +kernel
  have e : IntKind.u8.wrap (n : Int) = ((n % 256 : Nat) : Int) := by
    simp [IntKind.wrap, IntKind.bits, IntKind.signed]
  rw [e, h ⟨n % 256, Nat.mod_lt _ (by decide)⟩]
  simp only
  omega
theorem u8wrap {n : Nat} (h : n < 256) : IntKind.u8.wrap (n : Int) = (n : Int) := by
  simp [IntKind.wrap, IntKind.bits, IntKind.signed]; omega
theorem vU_of {n : Nat} (h : n < 256) : vU (UInt8.ofNat n) = .int .u8 (n : Int) := by
  unfold vU; rw [u8_of n h]
theorem right_ok {n : Int} {Q : Bool → AH → Prop} (hQ : Q (rightN n) σ) : c_wire_right B ro n σ Q := by
  refine wire_right_ok fun _ => ?_
  unfold f_wire_right
  exact hQ
end Go.Proofs.YtfobjidchipdaaaGreatDoor.Wi

/- The wire, the walk: a reader. -/
namespace Go.Proofs.YtfobjidchipdaaaGreatDoor.Wi
open Go Go.Proofs.YtfobjidchipdaaaGreatDoor.SL Go.Proofs.YtfobjidchipdaaaGreatDoor.G Go.Proofs.YtfobjidchipdaaaGreatDoor.Zt
set_option linter.unusedSimpArgs false
set_option linter.unusedVariables false
variable {B : World} {ro σ σ' : AH} {tag tag' : Nat → Nat}

theorem u8and (c : UInt8) : bitAnd .u8 (c.toNat : Int) 127 = ((c.toNat % 128 : Nat) : Int) := by
  have h : ∀ c : Fin 256, bitAnd .u8 ((c.val : Nat) : Int) 127 = ((c.val % 128 : Nat) : Int) := by decide +kernel
  exact h ⟨c.toNat, u8_lt c⟩
theorem orshift {n i : Nat} (c : UInt8) (hi : i ≤ 8) (hn : n < 128 ^ i) :
    bitOr .i64 (n : Int) (IntKind.i64.wrap ((IntKind.i64.wrap (bitAnd .u8 (c.toNat : Int) 127)) * 2 ^ (min (Int.toNat (IntKind.i64.wrap (7 * (i : Int)))) 64))) = ((n + 128 ^ i * (c.toNat % 128) : Nat) : Int) := by
  have hm : c.toNat % 128 < 128 := Nat.mod_lt _ (by decide)
  rw [u8and]
  generalize c.toNat % 128 = m at hm
  rw [w64_eq (n := (m : Int)) (by omega) (by omega), w64_eq (n := 7 * (i : Int)) (by omega) (by omega)]
  have hp : (2 : Int) ^ (min (Int.toNat (7 * (i : Int))) 64) = ((128 ^ i : Nat) : Int) := by
    have : i = 0 ∨ i = 1 ∨ i = 2 ∨ i = 3 ∨ i = 4 ∨ i = 5 ∨ i = 6 ∨ i = 7 ∨ i = 8 := by omega
    rcases this with rfl | rfl | rfl | rfl | rfl | rfl | rfl | rfl | rfl <;> decide
  rw [hp]
  have h8 : 128 ^ i ≤ 128 ^ 8 := Nat.pow_le_pow_right (by decide) hi
  have h9 : m * 128 ^ i ≤ 127 * 128 ^ 8 := Nat.mul_le_mul (by omega) h8
  have h9' : m * 128 ^ i ≤ 9151314442816847872 := by simpa using h9
  have hn' : n < 72057594037927936 := Nat.lt_of_lt_of_le hn (by simpa using h8)
  rw [← Int.natCast_mul, w64_eq (by omega) (by omega)]
  unfold bitOr
  have e : (BitVec.ofInt IntKind.i64.bits (n : Int) ||| BitVec.ofInt IntKind.i64.bits ((m * 128 ^ i : Nat) : Int)).toNat = n + 128 ^ i * m := by
    rw [BitVec.toNat_or, BitVec.ofInt_natCast, BitVec.ofInt_natCast, BitVec.toNat_ofNat, BitVec.toNat_ofNat]
    rw [show IntKind.i64.bits = 64 from rfl, Nat.mod_eq_of_lt (by omega), Nat.mod_eq_of_lt (by omega)]
    have e2 : 128 ^ i = 2 ^ (7 * i) := by rw [Nat.pow_mul]
    rw [Nat.or_comm, Nat.mul_comm m, e2, ← Nat.two_pow_add_eq_or_of_lt (by rw [← e2]; exact hn)]
    omega
  rw [e]
  have : 128 ^ i * m = m * 128 ^ i := Nat.mul_comm _ _
  rw [w64_eq (by omega) (by omega)]

set_option maxRecDepth 100000 in
theorem number_ok {s : Sl} {l : Str} {Q : Int → Int → Int → AH → Prop} (h : SL.Read ro σ s (l.map vU)) (hl : l.length ≤ 140737488355328) (hQ : Q (num l).1 (num l).2.1 (num l).2.2 σ) : c_wire_Number B ro s 0 σ Q := by
  refine wire_Number_ok fun _ => ?_
  unfold f_wire_Number
  have hln : s.len = l.length := by rw [h.1, List.length_map]
  rw [if_neg (by omega)]
  refine ⟨⟨trivial, by decide, by simp only [cutHi]; omega⟩, ?_⟩
  have e0 : (⟨cutA s.a (Int.toNat 0) s.cap 1, s.len - Int.toNat 0, s.cap - Int.toNat 0⟩ : Sl) = s := by rw [show Int.toNat 0 = 0 from rfl, cutA_zero]; rfl
  suffices ∀ (m i : Nat), i + m = 9 → i ≤ l.length → (∀ j c, j < i → l[j]? = some c → 128 ≤ c.toNat) → lfpD (l2_wire_Number B ro s 0 Q) (((val (l.take i) : Nat) : Int), (i : Int)) σ from
    this 9 0 rfl (Nat.zero_le _) (fun j c h => by omega)
  intro m
  induction m with
  | zero =>
    intro i hi hil hall
    have hi9 : i = 9 := by omega
    subst hi9
    refine lfpD.intro ?_
    unfold l2_wire_Number
    simp only [e0]
    have hnum : num l = (0, 0, if l.length < 9 then 12 else 13) := by unfold num; rw [scan_none_of 9 l hall]
    have hj : j1_wire_Number B ro s 0 Q σ := by
      unfold j1_wire_Number
      rw [Int.sub_zero, w64_eq (by omega) (by omega), if_pos (by omega)]
      rw [hnum, if_neg (by omega)] at hQ
      exact hQ
    by_cases hlt : 9 < l.length
    · rw [if_pos (by omega)]
      have ha : s.a ≠ none := fun hn => by have := h.2.1 hn; simp at this; subst this; simp at hlt
      obtain ⟨p, hs⟩ : ∃ p, s.a = some p := by
        cases hs : s.a with
        | none => exact absurd hs ha
        | some p => exact ⟨p, rfl⟩
      · skip
        refine ⟨p, by rw [show Int.toNat 0 = 0 from rfl, cutA_zero, hs], by decide, by omega, (l[9].toNat : Int), ?_, ?_⟩
        · have := h.2.2 p hs 9 (vU l[9]) (by rw [List.getElem?_map, List.getElem?_eq_getElem hlt]; rfl)
          exact this
        · rw [if_pos (by decide)]; exact hj
    · rw [if_neg (by omega)]; exact hj
  | succ m ih =>
    intro i hi hil hall
    refine lfpD.intro ?_
    unfold l2_wire_Number
    simp only [e0]
    by_cases hlt : i < l.length
    · rw [if_pos (by omega)]
      have ha : s.a ≠ none := fun hn => by have := h.2.1 hn; simp at this; subst this; simp at hlt
      obtain ⟨p, hs⟩ : ∃ p, s.a = some p := by
        cases hs : s.a with
        | none => exact absurd hs ha
        | some p => exact ⟨p, rfl⟩
      · skip
        refine ⟨p, by rw [show Int.toNat 0 = 0 from rfl, cutA_zero, hs], by omega, by omega, (l[i].toNat : Int), ?_, ?_⟩
        · have := h.2.2 p hs i (vU l[i]) (by rw [List.getElem?_map, List.getElem?_eq_getElem hlt]; rfl)
          rw [Int.toNat_natCast, Nat.mul_one]; exact this
        · rw [if_neg (by omega)]
          refine ⟨by rw [w64_eq (by omega) (by omega)]; omega, ?_⟩
          rw [orshift l[i] (by omega) (val_take l i)]
          have hlen : (l.take i).length = i := by simp; omega
          have hval : val (l.take i) + 128 ^ i * (l[i].toNat % 128) = val (l.take (i + 1)) := by
            have e : l.take (i + 1) = l.take i ++ [l[i]] := by rw [List.take_add_one, List.getElem?_eq_getElem hlt]; rfl
            rw [e, val_snoc, hlen]
          rw [hval]
          by_cases hc : l[i].toNat < 128
          · rw [if_pos (by omega)]
            have hscan : scan 9 l = some i := scan_of 9 l i l[i] (by omega) hall (List.getElem?_eq_getElem hlt) hc
            have hz : (l[i]? = some 0) ↔ l[i].toNat = 0 := by
              rw [List.getElem?_eq_getElem hlt]
              refine ⟨fun h => by rw [Option.some.inj h]; rfl, fun h => congrArg some (u8_eq h)⟩
            unfold num at hQ
            rw [hscan] at hQ
            simp only at hQ
            by_cases hz0 : ((l[i].toNat : Int) = 0) ∧ ((0 : Int) < (i : Int))
            · rw [if_pos hz0]
              unfold j7_wire_Number
              rw [if_pos rfl]
              rw [if_pos (.inl ⟨by omega, hz.2 (by omega)⟩)] at hQ
              exact hQ
            · rw [if_neg hz0]
              refine right_ok ?_
              unfold j7_wire_Number
              by_cases hr : 4611686018427387904 ≤ val (l.take (i + 1))
              · rw [if_pos (by simp [rightN]; omega)]
                rw [if_pos (.inr hr)] at hQ
                exact hQ
              · rw [if_neg (by simp [rightN]; omega)]
                rw [if_neg (fun h => by
                  rcases h with ⟨h1, h2⟩ | h
                  · exact hz0 ⟨by rw [hz.1 h2]; rfl, by omega⟩
                  · exact hr h)] at hQ
                rw [Int.zero_add, orshift l[i] (by omega) (val_take l i), hval, w64_eq (n := (i : Int)) (by omega) (by omega), w64_eq (by omega) (by omega)]
                exact hQ
          · rw [if_neg (by omega)]
            rw [Pa.inc i (by omega)]
            refine ih (i + 1) (by omega) (by omega) fun j c hj hjc => ?_
            rcases Nat.lt_or_ge j i with h1 | h1
            · exact hall j c h1 hjc
            · have : j = i := by omega
              subst this
              rw [List.getElem?_eq_getElem hlt] at hjc
              cases hjc; omega
    · rw [if_neg (by omega)]
      have hnone : scan 9 l = none := scan_none_of 9 l fun j c _ hjc => hall j c (by
        rcases Nat.lt_or_ge j l.length with h | h
        · omega
        · rw [List.getElem?_eq_none h] at hjc; cases hjc) hjc
      unfold num at hQ
      rw [hnone] at hQ
      simp only at hQ
      unfold j1_wire_Number
      rw [Int.sub_zero, w64_eq (by omega) (by omega), if_neg (by omega)]
      rw [if_pos (by omega)] at hQ
      exact hQ
end Go.Proofs.YtfobjidchipdaaaGreatDoor.Wi

/- Sums, four bytes, frames, numbers: the walk of the wire's functions that snapshots and logs use. -/
namespace Go.Proofs.YtfobjidchipdaaaGreatDoor.Wi
open Go Go.Proofs.YtfobjidchipdaaaGreatDoor.SL Go.Proofs.YtfobjidchipdaaaGreatDoor.G Go.Proofs.YtfobjidchipdaaaGreatDoor.Pa Go.Proofs.YtfobjidchipdaaaGreatDoor.Zt
set_option linter.unusedSimpArgs false
set_option linter.unusedVariables false
set_option maxRecDepth 100000
variable {B : World} {ro σ σ' : AH} {tag tag' : Nat → Nat}
theorem w32_eq {n : Int} (h0 : 0 ≤ n) (h1 : n < 4294967296) : IntKind.u32.wrap n = n := by
  unfold IntKind.wrap
  show (if false = true then _ else _) = n
  rw [if_neg (by decide)]
  show n % 4294967296 = n
  omega
theorem xor32 {a b : Nat} (ha : a < 4294967296) (hb : b < 4294967296) : bitXor .u32 (a : Int) (b : Int) = ((a ^^^ b : Nat) : Int) := by
  unfold bitXor
  have e : (BitVec.ofInt IntKind.u32.bits (a : Int) ^^^ BitVec.ofInt IntKind.u32.bits (b : Int)).toNat = a ^^^ b := by
    rw [BitVec.toNat_xor, BitVec.ofInt_natCast, BitVec.ofInt_natCast, BitVec.toNat_ofNat, BitVec.toNat_ofNat]
    rw [show IntKind.u32.bits = 32 from rfl, Nat.mod_eq_of_lt (by omega), Nat.mod_eq_of_lt (by omega)]
  rw [e]
  have := Nat.xor_lt_two_pow (n := 32) (x := a) (y := b) (by omega) (by omega)
  rw [w32_eq (by omega) (by omega)]
theorem and1 {a : Nat} (ha : a < 4294967296) : bitAnd .u32 (a : Int) 1 = ((a % 2 : Nat) : Int) := by
  unfold bitAnd
  have e : (BitVec.ofInt IntKind.u32.bits (a : Int) &&& BitVec.ofInt IntKind.u32.bits 1).toNat = a % 2 := by
    rw [show (1 : Int) = ((1 : Nat) : Int) from rfl, BitVec.toNat_and, BitVec.ofInt_natCast, BitVec.ofInt_natCast, BitVec.toNat_ofNat, BitVec.toNat_ofNat]
    rw [show IntKind.u32.bits = 32 from rfl, Nat.mod_eq_of_lt (by omega), Nat.mod_eq_of_lt (by omega), Nat.and_one_is_mod]
  rw [e]
  rw [w32_eq (by omega) (by omega)]
theorem half (a : Nat) : Int.fdiv (a : Int) (2 ^ (min (Int.toNat 1) 32)) = ((a / 2 : Nat) : Int) := by
  rw [show (2 : Int) ^ (min (Int.toNat 1) 32) = 2 from by decide, Int.fdiv_eq_ediv_of_nonneg _ (by decide)]; omega
def bits : Nat → Nat → Nat
  | 0, s => s
  | m + 1, s => bits m (crcBit s)
theorem bits8 (s : Nat) (c : UInt8) : bits 8 (s ^^^ c.toNat) = crcByte s c := rfl
theorem not32 {a : Nat} (ha : a < 4294967296) : bitXor .u32 (if IntKind.u32.signed then -1 else IntKind.u32.max) (a : Int) = ((4294967295 - a : Nat) : Int) := by
  rw [if_neg (by decide), show IntKind.u32.max = ((4294967295 : Nat) : Int) from by decide, xor32 (by decide) ha]
  congr 1
  apply Nat.eq_of_testBit_eq
  intro i
  rw [Nat.testBit_xor]
  have h2 := Nat.testBit_two_pow_sub_succ (n := 32) (x := a) (by omega) i
  rw [show (2 : Nat) ^ 32 - (a + 1) = 4294967295 - a from by omega] at h2
  rw [h2, show (4294967295 : Nat) = 2 ^ 32 - 1 from rfl, Nat.testBit_two_pow_sub_one]
  by_cases hi : i < 32
  · simp [hi]
  · simp [hi]
    exact Nat.testBit_lt_two_pow (Nat.lt_of_lt_of_le (show a < 2 ^ 32 by omega) (Nat.pow_le_pow_right (by decide) (by omega)))
theorem sum_ok {s : Sl} {l : Str} {Q : Int → AH → Prop} (h : SL.Read ro σ s (l.map vU)) (hl : l.length < 4611686018427387904) (hQ : Q (crc l : Nat) σ) : c_wire_Sum B ro s σ Q := by
  refine wire_Sum_ok fun _ => ?_
  unfold f_wire_Sum
  have hln : s.len = l.length := by rw [h.1, List.length_map]
  have hrl : ∀ j, (l.take j).foldl crcByte 4294967295 < 4294967296 := fun j => crcR_lt (l.take j)
  suffices ∀ (m j : Nat), j + m = l.length → lfpD (l3_wire_Sum B ro s Q) ((((l.take j).foldl crcByte 4294967295 : Nat) : Int), (j : Int)) σ from this _ 0 (Nat.zero_add _)
  intro m
  induction m with
  | zero =>
    intro j hj
    refine lfpD.intro ?_
    unfold l3_wire_Sum
    simp only
    rw [if_neg (by omega)]
    unfold j1_wire_Sum
    have := hrl j
    rw [not32 (hrl j), w64_eq (by omega) (by omega)]
    rw [List.take_of_length_le (by omega)]
    exact hQ
  | succ m ih =>
    intro j hj
    have hjl : j < l.length := by omega
    have hjr := hrl j
    refine lfpD.intro ?_
    unfold l3_wire_Sum
    simp only
    rw [if_pos (by omega)]
    obtain ⟨p, hp⟩ : ∃ p, s.a = some p := by
      cases ha : s.a with
      | none => have := h.2.1 ha; simp at this; subst this; simp at hjl
      | some p => exact ⟨p, rfl⟩
    refine ⟨p, hp, by omega, by omega, (l[j].toNat : Int), ?_, ?_⟩
    · rw [Int.toNat_natCast, Nat.mul_one]
      refine h.2.2 p hp j _ ?_
      rw [List.getElem?_map, List.getElem?_eq_getElem hjl]; rfl
    · have hc := u8_lt l[j]
      have et : (l.take (j + 1)).foldl crcByte 4294967295 = crcByte ((l.take j).foldl crcByte 4294967295) l[j] := by
        rw [List.take_add_one, List.getElem?_eq_getElem hjl, List.foldl_append]; rfl
      have ihj := ih (j + 1) (by omega)
      rw [et] at ihj
      generalize (l.take j).foldl crcByte 4294967295 = a at *
      generalize l[j] = c at *
      rw [w32_eq (by omega) (by omega), xor32 hjr (by omega)]
      rw [← bits8] at ihj
      have hx : a ^^^ c.toNat < 4294967296 := Nat.xor_lt_two_pow (n := 32) (by omega) (by omega)
      generalize a ^^^ c.toNat = b at *
      clear et hjr hrl
      suffices ∀ (k i b : Nat), i + k = 8 → b < 4294967296 → lfpD (l3_wire_Sum B ro s Q) (((bits k b : Nat) : Int), ((j + 1 : Nat) : Int)) σ → lfpD (l10_wire_Sum B ro s (j : Int) Q (lfpD (l3_wire_Sum B ro s Q))) ((b : Int), (i : Int)) σ from this 8 0 b rfl hx ihj
      intro k
      induction k with
      | zero =>
        intro i b hi hb hK
        refine lfpD.intro ?_
        unfold l10_wire_Sum
        simp only
        rw [if_neg (by omega)]
        unfold j6_wire_Sum
        rw [Pa.inc j (by omega)]
        exact hK
      | succ k ihk =>
        intro i b hi hb hK
        refine lfpD.intro ?_
        unfold l10_wire_Sum
        simp only
        rw [if_pos (by omega), and1 hb, half]
        have hK2 : lfpD (l3_wire_Sum B ro s Q) (((bits k (crcBit b) : Nat) : Int), ((j + 1 : Nat) : Int)) σ := hK
        have hlt := crcBit_lt hb
        by_cases c1 : b % 2 = 1
        · rw [if_pos (by omega)]
          unfold j13_wire_Sum
          rw [Pa.inc i (by omega), show (3988292384 : Int) = ((3988292384 : Nat) : Int) from rfl, xor32 (by omega) (by decide)]
          have e : crcBit b = (b / 2) ^^^ 3988292384 := by unfold crcBit; rw [if_pos c1]
          rw [e] at hK2 hlt
          exact ihk (i + 1) _ (by omega) hlt hK2
        · rw [if_neg (by omega)]
          unfold j13_wire_Sum
          rw [Pa.inc i (by omega)]
          have e : crcBit b = b / 2 := by unfold crcBit; rw [if_neg c1]
          rw [e] at hK2 hlt
          exact ihk (i + 1) _ (by omega) hlt hK2
theorem bor {n m k : Nat} (hn : n < 2 ^ k) (hm : 2 ^ k * m + n < 9223372036854775808) : bitOr .i64 (n : Int) ((m * 2 ^ k : Nat) : Int) = ((n + 2 ^ k * m : Nat) : Int) := by
  unfold bitOr
  have h1 : m * 2 ^ k = 2 ^ k * m := Nat.mul_comm _ _
  have e : (BitVec.ofInt IntKind.i64.bits (n : Int) ||| BitVec.ofInt IntKind.i64.bits ((m * 2 ^ k : Nat) : Int)).toNat = n + 2 ^ k * m := by
    rw [BitVec.toNat_or, BitVec.ofInt_natCast, BitVec.ofInt_natCast, BitVec.toNat_ofNat, BitVec.toNat_ofNat]
    rw [show IntKind.i64.bits = 64 from rfl, Nat.mod_eq_of_lt (by omega), Nat.mod_eq_of_lt (by omega)]
    rw [Nat.or_comm, h1, ← Nat.two_pow_add_eq_or_of_lt hn]
    omega
  rw [e, w64_eq (by omega) (by omega)]
theorem value_ok {s : Sl} {l : Str} {Q : Int → AH → Prop} (h : SL.Read ro σ s (l.map vU)) (h4 : 4 ≤ l.length) (hQ : Q (value l : Nat) σ) : c_wire_value B ro s σ Q := by
  refine wire_value_ok fun _ => ?_
  unfold f_wire_value
  have hln : s.len = l.length := by rw [h.1, List.length_map]
  obtain ⟨a, b, c, d, r, rfl⟩ : ∃ a b c d r, l = a :: b :: c :: d :: r := by
    match l, h4 with
    | a :: b :: c :: d :: r, _ => exact ⟨a, b, c, d, r, rfl⟩
  obtain ⟨p, hp⟩ : ∃ p, s.a = some p := by
    cases ha : s.a with
    | none => have := h.2.1 ha; cases this
    | some p => exact ⟨p, rfl⟩
  have hg := h.2.2 p hp
  refine ⟨p, hp, by omega, by omega, p, hp, by omega, by omega, p, hp, by omega, by omega, p, hp, by omega, by omega, (a.toNat : Int), hg 0 _ rfl, (b.toNat : Int), hg 1 _ rfl, (c.toNat : Int), hg 2 _ rfl, (d.toNat : Int), hg 3 _ rfl, ?_⟩
  have ha := u8_lt a
  have hb := u8_lt b
  have hc := u8_lt c
  have hd := u8_lt d
  change Q ((a.toNat + 256 * b.toNat + 65536 * c.toNat + 16777216 * d.toNat : Nat) : Int) σ at hQ
  generalize a.toNat = a at *
  generalize b.toNat = b at *
  generalize c.toNat = c at *
  generalize d.toNat = d at *
  rw [show (2 : Int) ^ (min (Int.toNat 8) 64) = ((2 ^ 8 : Nat) : Int) from by decide, show (2 : Int) ^ (min (Int.toNat 16) 64) = ((2 ^ 16 : Nat) : Int) from by decide, show (2 : Int) ^ (min (Int.toNat 24) 64) = ((2 ^ 24 : Nat) : Int) from by decide]
  rw [w64_eq (n := (a : Int)) (by omega) (by omega), w64_eq (n := (b : Int)) (by omega) (by omega), w64_eq (n := (c : Int)) (by omega) (by omega), w64_eq (n := (d : Int)) (by omega) (by omega)]
  rw [← Int.natCast_mul, ← Int.natCast_mul, ← Int.natCast_mul]
  rw [w64_eq (n := ((b * 2 ^ 8 : Nat) : Int)) (by omega) (by omega), w64_eq (n := ((c * 2 ^ 16 : Nat) : Int)) (by omega) (by omega), w64_eq (n := ((d * 2 ^ 24 : Nat) : Int)) (by omega) (by omega)]
  rw [bor (k := 8) (by omega) (by omega), bor (k := 16) (by omega) (by omega), bor (k := 24) (by omega) (by omega)]
  have e : a + 2 ^ 8 * b + 2 ^ 16 * c + 2 ^ 24 * d = a + 256 * b + 65536 * c + 16777216 * d := by omega
  rw [e]; exact hQ
theorem u8mod (n : Nat) : IntKind.u8.wrap (n : Int) = ((n % 256 : Nat) : Int) := by
  unfold IntKind.wrap
  rw [if_neg (by simp [IntKind.signed])]
  show (n : Int) % 256 = _
  omega
theorem four_ok {n q : Nat} {Q : Sl → AH → Prop} (hn : n < 4294967296) (hQ : ∀ s tag' σ', (∀ R, Step R ro tag σ tag' σ') → s.len = s.cap → Row tag' σ' q 5 s ((four n).map vU) → Q s σ') : c_wire_four B ro (n : Int) σ Q := by
  refine wire_four_ok fun hs => ?_
  unfold f_wire_four
  refine nw_cells (tag := tag) q hs fun x tag1 σ1 st1 r1 => ?_
  refine hQ _ tag1 σ1 st1 rfl ?_
  have fd : ∀ k : Nat, k ≤ 64 → Int.fdiv (n : Int) (2 ^ k) = ((n / 2 ^ k : Nat) : Int) := fun k hk => by
    have : ((2 : Int) ^ k) = ((2 ^ k : Nat) : Int) := by simp
    rw [this, Int.fdiv_eq_ediv_of_nonneg _ (Int.natCast_nonneg _)]; rfl
  rw [show min (Int.toNat 8) 64 = 8 from by decide, show min (Int.toNat 16) 64 = 16 from by decide, show min (Int.toNat 24) 64 = 24 from by decide, fd 8 (by decide), fd 16 (by decide), fd 24 (by decide), u8mod, u8mod, u8mod, u8mod] at r1
  have e : (four n).map vU = [.int .u8 ((n % 256 : Nat) : Int), .int .u8 ((n / 2 ^ 8 % 256 : Nat) : Int), .int .u8 ((n / 2 ^ 16 % 256 : Nat) : Int), .int .u8 ((n / 2 ^ 24 % 256 : Nat) : Int)] := by
    unfold four
    simp only [List.map_cons, List.map_nil, vU]
    rw [u8_of _ (by omega), u8_of _ (by omega), u8_of _ (by omega), u8_of _ (by omega)]
  rw [e]
  exact r1
end Go.Proofs.YtfobjidchipdaaaGreatDoor.Wi
