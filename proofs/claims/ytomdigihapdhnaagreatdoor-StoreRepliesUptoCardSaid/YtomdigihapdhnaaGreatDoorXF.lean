/- ZtD, ZtP, WiA, EnA, ZtF, GR1, ZtL, ZtV -/
import Derived.Test.YtomdigihapdhnaaGreatDoorXE
/- The tree, the walk: Delete, Set. -/
namespace Go.Proofs.YtomdigihapdhnaaGreatDoor.Zt
open Go Go.Proofs.YtomdigihapdhnaaGreatDoor.SL Go.Proofs.YtomdigihapdhnaaGreatDoor.G Go.Proofs.YtomdigihapdhnaaGreatDoor.Pa
set_option linter.unusedSimpArgs false
set_option linter.unusedVariables false
variable {B : World} {ro σ σ' : AH} {tag tag' : Nat → Nat}

def delK : St → Str → St
  | [], _ => []
  | (k', n) :: r, k => if k = k' then r else (k', n) :: delK r k
theorem delK_idx : ∀ (st : St) (bs : List Nat) (i b : Nat) (q : Str) (n : Nd), bs.length = st.length → (st.map (·.1)).Nodup → bs[i]? = some b → st[i]? = some (q, n) →
    delK st q = st.eraseIdx i ∧ mdel (kv st bs) q = kv (st.eraseIdx i) (bs.eraseIdx i) := by
  intro st
  induction st with
  | nil => intro bs i b q n _ _ _ h; cases h
  | cons p st ih =>
    intro bs i b q n hl hk hb hp
    cases bs with
    | nil => simp at hl
    | cons c bs =>
      obtain ⟨p, m⟩ := p
      rw [List.map_cons, List.nodup_cons] at hk
      cases i with
      | zero =>
        cases hp
        exact ⟨by simp [delK], by simp [kv, mdel]⟩
      | succ i =>
        simp only [List.getElem?_cons_succ] at hb hp
        have hne : q ≠ p := fun e => hk.1 (by rw [← e]; exact List.mem_map.2 ⟨_, List.mem_of_getElem? hp, rfl⟩)
        obtain ⟨h1, h2⟩ := ih bs i b q n (by simpa using hl) hk.2 hb hp
        refine ⟨by simp [delK, hne, h1], ?_⟩
        simp only [List.eraseIdx_cons_succ]
        unfold kv mdel
        rw [if_neg hne, h2]
theorem eraseIdx_get {α : Type} (l : List α) (i j : Nat) : (l.eraseIdx i)[j]? = if j < i then l[j]? else l[j + 1]? := by
  rw [List.getElem?_eraseIdx]
/-- a node goes -/
theorem TreeAt.rem {r T M i b : Nat} {bs : List Nat} {st : St} {q : Str} {n : Nd} (h : TreeAt tag σ r T M bs st) (hr : r < 64) (hr6 : r ≠ 6) (hb : bs[i]? = some b) (hp : st[i]? = some (q, n)) (k : Step [r + 64] ro tag σ tag' σ')
    (hm : MapIs tag' σ' (r + 64) M (mdel (kv st bs) q)) : TreeAt tag' σ' r T M (bs.eraseIdx i) (delK st q) := by
  obtain ⟨e1, e2⟩ := delK_idx st bs i b q n h.len h.keys hb hp
  rw [e1]
  rw [e2] at hm
  refine ⟨List.Nodup.sublist ((List.eraseIdx_sublist ..).map _) h.keys, ?_, List.Nodup.sublist (List.eraseIdx_sublist ..) h.nd, h.cell.keep k (by simp), hm, fun j c p hc hp' => ?_⟩
  · rw [List.length_eraseIdx, List.length_eraseIdx, h.len]
  · rw [eraseIdx_get] at hc hp'
    by_cases hj : j < i
    · rw [if_pos hj] at hc hp'
      exact (h.nodes j c p hc hp').keep k (by simp; omega) (by simp)
    · rw [if_neg hj] at hc hp'
      exact (h.nodes (j + 1) c p hc hp').keep k (by simp; omega) (by simp)
end Go.Proofs.YtomdigihapdhnaaGreatDoor.Zt

/- The tree, the plain part: what is always true of a tree, and that each call keeps it. No program in sight. -/
namespace Go.Proofs.YtomdigihapdhnaaGreatDoor.Zt
open Go Go.Proofs.YtomdigihapdhnaaGreatDoor.SL Go.Proofs.YtomdigihapdhnaaGreatDoor.Pa
set_option linter.unusedSimpArgs false
set_option linter.unusedVariables false

def kc (ks : List Str) (u : Str) : Nat := ks.countP fun k => parent k = some u
structure Inv (st : St) : Prop where
  keys : (st.map (·.1)).Nodup
  root : ∃ n, st.lookup [47] = some n
  path : ∀ k n, st.lookup k = some n → ∃ ps, parts k = some ps
  up : ∀ k n, st.lookup k = some n → k ≠ [47] → ∃ u m, parent k = some u ∧ st.lookup u = some m ∧ m.own = 0
  kids : ∀ k n, st.lookup k = some n → n.kids = (kc (st.map (·.1)) k : Nat)
  ctr : ∀ k n, st.lookup k = some n → n.kids ≤ n.ctr ∧ n.ctr ≤ 10000000000
  data : ∀ k n, st.lookup k = some n → n.data.length ≤ 256
end Go.Proofs.YtomdigihapdhnaaGreatDoor.Zt

/- Numbers and bytes as the wire has them: what is written is read back, and what is read was written. -/
namespace Go.Proofs.YtomdigihapdhnaaGreatDoor.Wi
open Go Go.Proofs.YtomdigihapdhnaaGreatDoor.SL
set_option linter.unusedSimpArgs false
set_option linter.unusedVariables false

def vput (n : Nat) : Str := if n < 128 then [UInt8.ofNat n] else UInt8.ofNat (n % 128 + 128) :: vput (n / 128)
termination_by n
decreasing_by omega
def val : Str → Nat
  | [] => 0
  | c :: r => c.toNat % 128 + 128 * val r
/-- the place of the first small byte among the first ones -/
def scan : Nat → Str → Option Nat
  | 0, _ => none
  | _ + 1, [] => none
  | k + 1, c :: r => if c.toNat < 128 then some 0 else (scan k r).map (· + 1)
def num (l : Str) : Nat × Nat × Int :=
  match scan 9 l with
  | none => (0, 0, if l.length < 9 then 12 else 13)
  | some k => if (0 < k ∧ l[k]? = some 0) ∨ 4611686018427387904 ≤ val (l.take (k + 1)) then (0, 0, 13) else (val (l.take (k + 1)), k + 1, 0)

theorem u8_lt (c : UInt8) : c.toNat < 256 := c.toNat_lt
theorem u8_of (n : Nat) (h : n < 256) : (UInt8.ofNat n).toNat = n := by simp; omega
theorem u8_eq {c d : UInt8} (h : c.toNat = d.toNat) : c = d := UInt8.toNat_inj.1 h

theorem scan_some : ∀ (m : Nat) (l : Str) (k : Nat), scan m l = some k → k < m ∧ k < l.length ∧ (∀ i c, i < k → l[i]? = some c → 128 ≤ c.toNat) ∧ ∃ c, l[k]? = some c ∧ c.toNat < 128 := by
  intro m
  induction m with
  | zero => intro l k h; cases h
  | succ m ih =>
    intro l k h
    cases l with
    | nil => cases h
    | cons c r =>
      unfold scan at h
      split at h
      · rename_i hc
        cases h
        exact ⟨by omega, by simp, fun i c hi => by omega, c, rfl, hc⟩
      · rename_i hc
        obtain ⟨k', hk', rfl⟩ := Option.map_eq_some_iff.1 h
        obtain ⟨h1, h2, h3, h4⟩ := ih r k' hk'
        refine ⟨by omega, by simp; omega, fun i d hi hd => ?_, by simpa using h4⟩
        rcases i with _ | i
        · cases hd; omega
        · exact h3 i d (by omega) (by simpa using hd)
theorem scan_of : ∀ (m : Nat) (l : Str) (k : Nat) (d : UInt8), k < m → (∀ i c, i < k → l[i]? = some c → 128 ≤ c.toNat) → l[k]? = some d → d.toNat < 128 → scan m l = some k := by
  intro m
  induction m with
  | zero => intro l k d h; omega
  | succ m ih =>
    intro l k d hk hall hd hsm
    cases l with
    | nil => cases hd
    | cons c r =>
      unfold scan
      rcases k with _ | k
      · cases hd; rw [if_pos hsm]
      · rw [if_neg (by have := hall 0 c (by omega) rfl; omega), ih r k d (by omega) (fun i e hi he => hall (i + 1) e (by omega) (by simpa using he)) (by simpa using hd) hsm]; rfl
theorem scan_none_of : ∀ (m : Nat) (l : Str), (∀ i c, i < m → l[i]? = some c → 128 ≤ c.toNat) → scan m l = none := by
  intro m l h
  cases e : scan m l with
  | none => rfl
  | some k =>
    obtain ⟨h1, _, _, c, hc, h4⟩ := scan_some m l k e
    have := h k c h1 hc
    omega

theorem val_take : ∀ (l : Str) (k : Nat), val (l.take k) < 128 ^ k := by
  intro l
  induction l with
  | nil => intro k; simp [val]; exact Nat.pow_pos (by decide)
  | cons c r ih =>
    intro k
    cases k with
    | zero => simp [val]
    | succ k =>
      have := ih k
      simp only [List.take_succ_cons, val]
      have := Nat.mod_lt c.toNat (show 0 < 128 by decide)
      rw [Nat.pow_succ]
      omega
theorem val_snoc (l : Str) (c : UInt8) : val (l ++ [c]) = val l + 128 ^ l.length * (c.toNat % 128) := by
  induction l with
  | nil => simp [val]
  | cons d l ih => simp only [List.cons_append, val, ih, List.length_cons, Nat.pow_succ]; rw [Nat.mul_add, ← Nat.mul_assoc, Nat.mul_comm 128 (128 ^ l.length)]; omega

theorem vput_val : ∀ (m : Nat) (l : Str) (k : Nat), scan m l = some k → (k = 0 ∨ l[k]? ≠ some 0) → vput (val (l.take (k + 1))) = l.take (k + 1) ∧ (0 < k → 0 < val (l.take (k + 1))) := by
  intro m
  induction m with
  | zero => intro l k h; cases h
  | succ m ih =>
    intro l k h hz
    cases l with
    | nil => cases h
    | cons c r =>
      unfold scan at h
      split at h
      · rename_i hc
        cases h
        refine ⟨?_, fun h => by omega⟩
        simp only [List.take_succ_cons, List.take_zero, val, Nat.mul_zero, Nat.add_zero, Nat.mod_eq_of_lt hc]
        unfold vput
        rw [if_pos hc]
        simp
      · rename_i hc
        obtain ⟨k', hk', rfl⟩ := Option.map_eq_some_iff.1 h
        have hne : (k' = 0 ∨ r[k']? ≠ some 0) ∧ r[k']? ≠ some 0 := by
          rcases hz with h0 | h0
          · omega
          · have : r[k']? ≠ some 0 := by simpa using h0
            exact ⟨.inr this, this⟩
        obtain ⟨h1, h2⟩ := ih r k' hk' hne.1
        obtain ⟨_, h3, _, d, hd, hd'⟩ := scan_some m r k' hk'
        have hpos : 0 < val (r.take (k' + 1)) := by
          rcases Nat.eq_zero_or_pos k' with h0 | h0
          · subst h0
            cases r with
            | nil => cases hd
            | cons e r =>
              cases hd
              simp only [List.take_succ_cons, List.take_zero, val, Nat.mul_zero, Nat.add_zero, Nat.mod_eq_of_lt hd']
              rcases Nat.eq_zero_or_pos d.toNat with h5 | h5
              · exact absurd (by rw [show d = 0 from u8_eq h5]; rfl) hne.2
              · exact h5
          · exact h2 h0
        have hc256 := u8_lt c
        refine ⟨?_, fun _ => ?_⟩
        · simp only [List.take_succ_cons, val]
          unfold vput
          rw [if_neg (by omega), show (c.toNat % 128 + 128 * val (List.take (k' + 1) r)) / 128 = val (List.take (k' + 1) r) by omega, h1]
          congr 1
          refine u8_eq ?_
          rw [u8_of _ (by omega)]; omega
        · simp only [List.take_succ_cons, val]; omega

theorem vput_ne (n : Nat) : vput n ≠ [] := by unfold vput; split <;> simp
theorem vput_len : ∀ (m n : Nat), n < 128 ^ (m + 1) → 1 ≤ (vput n).length ∧ (vput n).length ≤ m + 1 := by
  intro m
  induction m with
  | zero => intro n h; unfold vput; rw [if_pos (by simpa using h)]; simp
  | succ m ih =>
    intro n h
    unfold vput
    split
    · simp
    · have := ih (n / 128) (by rw [Nat.pow_succ] at h; exact Nat.div_lt_of_lt_mul (by rw [Nat.mul_comm]; exact h))
      simp; omega
theorem scan_vput : ∀ (m n : Nat) (r : Str), n < 128 ^ (m + 1) → ∃ k, scan (m + 1) (vput n ++ r) = some k ∧ (vput n).length = k + 1 ∧ val (vput n) = n ∧ (0 < k → (vput n)[k]? ≠ some 0) ∧ (0 < n ∨ k = 0) := by
  intro m
  induction m with
  | zero =>
    intro n r h
    have h : n < 128 := by simpa using h
    unfold vput
    rw [if_pos h]
    refine ⟨0, ?_, rfl, ?_, fun h => by omega, .inr rfl⟩
    · unfold scan; rw [List.cons_append]; simp only; rw [u8_of _ (by omega), if_pos h]
    · simp only [val]; rw [u8_of _ (by omega)]; omega
  | succ m ih =>
    intro n r h
    by_cases hn : n < 128
    · unfold vput
      rw [if_pos hn]
      refine ⟨0, ?_, rfl, ?_, fun h => by omega, .inr rfl⟩
      · unfold scan; rw [List.cons_append]; simp only; rw [u8_of _ (by omega), if_pos hn]
      · simp only [val]; rw [u8_of _ (by omega)]; omega
    · obtain ⟨k, h1, h2, h3, h4, h5⟩ := ih (n / 128) r (by rw [Nat.pow_succ] at h; exact Nat.div_lt_of_lt_mul (by rw [Nat.mul_comm]; exact h))
      rw [vput, if_neg hn]
      refine ⟨k + 1, ?_, by simp [h2], ?_, fun _ => ?_, .inl (by omega)⟩
      · rw [List.cons_append]
        unfold scan
        rw [u8_of _ (by omega), if_neg (by omega), h1]; rfl
      · simp only [val]; rw [h3, u8_of _ (by omega)]; omega
      · rw [List.getElem?_cons_succ]
        rcases Nat.eq_zero_or_pos k with h0 | h0
        · subst h0
          have hlt : n / 128 < 128 ∨ ¬ n / 128 < 128 := by omega
          rcases hlt with hlt | hlt
          · rw [vput, if_pos hlt]
            simp only [List.getElem?_cons_zero]
            intro e
            have := congrArg UInt8.toNat (Option.some.inj e)
            rw [u8_of _ (by omega)] at this
            simp at this; omega
          · rw [vput, if_neg hlt] at h2
            have := List.length_pos_iff.2 (vput_ne (n / 128 / 128))
            rw [List.length_cons] at h2; omega
        · exact h4 h0
/-- what was written is read back -/
theorem num_put {n : Nat} (h : n < 4611686018427387904) (r : Str) : num (vput n ++ r) = (n, (vput n).length, 0) := by
  obtain ⟨k, h1, h2, h3, h4, _⟩ := scan_vput 8 n r (by omega)
  unfold num
  rw [h1]
  have e1 : (vput n ++ r).take (k + 1) = vput n := by rw [← h2]; simp
  have e2 : (vput n ++ r)[k]? = (vput n)[k]? := List.getElem?_append_left (by omega)
  simp only [e1, e2, h3]
  rw [if_neg, h2]
  rintro (⟨h5, h6⟩ | h5)
  · exact h4 h5 h6
  · omega
/-- what is read was written -/
theorem put_num {l : Str} {n e : Nat} (h : num l = (n, e, 0)) : n < 4611686018427387904 ∧ 0 < e ∧ e ≤ l.length ∧ l.take e = vput n := by
  unfold num at h
  cases hs : scan 9 l with
  | none =>
    rw [hs] at h
    simp only [Prod.mk.injEq] at h
    have := h.2.2
    split at this <;> omega
  | some k =>
    rw [hs] at h
    simp only at h
    split at h
    · simp at h
    · rename_i hb
      simp only [not_or] at hb
      simp only [Prod.mk.injEq] at h
      obtain ⟨rfl, rfl, _⟩ := h
      obtain ⟨_, h2, _, _⟩ := scan_some 9 l k hs
      refine ⟨by omega, by omega, by omega, ((vput_val 9 l k hs ?_).1).symm⟩
      rcases Nat.eq_zero_or_pos k with h0 | h0
      · exact .inl h0
      · exact .inr fun h => hb.1 ⟨h0, h⟩
theorem num_split {l : Str} {n e : Nat} (h : num l = (n, e, 0)) : l = vput n ++ l.drop e := by
  rw [← (put_num h).2.2.2, List.take_append_drop]
theorem num_err {l : Str} (h : (num l).2.2 ≠ 0) : (num l).1 = 0 ∧ (num l).2.1 = 0 ∧ ((num l).2.2 = 12 ∨ (num l).2.2 = 13) := by
  unfold num at h ⊢
  cases hs : scan 9 l with
  | none => simp only; refine ⟨by simp, by simp, ?_⟩; split <;> simp
  | some k =>
    rw [hs] at h
    simp only at h ⊢
    split
    · simp
    · rename_i hb; rw [if_neg hb] at h; simp at h
theorem num_le (l : Str) : (num l).2.1 ≤ l.length ∧ (num l).1 < 4611686018427387904 := by
  by_cases h : (num l).2.2 = 0
  · obtain ⟨h1, _, h3, _⟩ := put_num (l := l) (n := (num l).1) (e := (num l).2.1) (by rw [← h])
    exact ⟨h3, h1⟩
  · obtain ⟨h1, h2, _⟩ := num_err h
    rw [h1, h2]; exact ⟨Nat.zero_le _, by decide⟩

/-- a number that the wire bears -/
def rightN (x : Int) : Bool := decide (0 ≤ x) && decide (x ≤ 4611686018427387903)
/-! ### a reader -/
structure Rd where
  rest : Str
  err : Int
def blob (d : Str) : Str := vput d.length ++ d
def rnum (r : Rd) : Nat × Rd := if r.err ≠ 0 then (0, r) else ((num r.rest).1, ⟨r.rest.drop (num r.rest).2.1, (num r.rest).2.2⟩)
def rblob (r : Rd) : Str × Rd :=
  if (rnum r).2.err ≠ 0 then ([], (rnum r).2)
  else if (rnum r).2.rest.length < (rnum r).1 then ([], ⟨r.rest, 12⟩)
  else ((rnum r).2.rest.take (rnum r).1, ⟨(rnum r).2.rest.drop (rnum r).1, 0⟩)
theorem rnum_put {n : Nat} (h : n < 4611686018427387904) (r : Str) : rnum ⟨vput n ++ r, 0⟩ = (n, ⟨r, 0⟩) := by
  unfold rnum
  simp only [ne_eq, not_true_eq_false, if_false, num_put h, List.drop_left]
theorem rblob_put {d : Str} (h : d.length < 4611686018427387904) (r : Str) : rblob ⟨blob d ++ r, 0⟩ = (d, ⟨r, 0⟩) := by
  unfold rblob blob
  rw [List.append_assoc, rnum_put h]
  simp
theorem rnum_bad {r : Rd} (h : r.err ≠ 0) : rnum r = (0, r) := by unfold rnum; rw [if_pos h]
theorem rnum_err {r : Rd} (h : (rnum r).2.err = 0) : r.err = 0 := Classical.byContradiction fun hn => hn (by rw [rnum_bad hn] at h; exact h)
theorem rnum_split {r : Rd} (h : (rnum r).2.err = 0) : (rnum r).1 < 4611686018427387904 ∧ r.rest = vput (rnum r).1 ++ (rnum r).2.rest := by
  have h0 := rnum_err h
  unfold rnum at h ⊢
  rw [if_neg (by simp [h0])] at h ⊢
  have hn : num r.rest = ((num r.rest).1, (num r.rest).2.1, 0) := by rw [← h]
  exact ⟨(put_num hn).1, num_split hn⟩
theorem rblob_split {r : Rd} (h : (rblob r).2.err = 0) : (rblob r).1.length < 4611686018427387904 ∧ r.rest = blob (rblob r).1 ++ (rblob r).2.rest := by
  unfold rblob at h ⊢
  by_cases h1 : (rnum r).2.err = 0
  · rw [if_neg (by simp [h1])] at h ⊢
    by_cases h2 : (rnum r).2.rest.length < (rnum r).1
    · rw [if_pos h2] at h; cases h
    · rw [if_neg h2] at h ⊢
      obtain ⟨h3, h4⟩ := rnum_split h1
      have hl : ((rnum r).2.rest.take (rnum r).1).length = (rnum r).1 := by simp; omega
      refine ⟨by simp only [hl]; exact h3, ?_⟩
      simp only [blob, hl]
      rw [List.append_assoc, List.take_append_drop]; exact h4
  · rw [if_pos h1] at h; exact absurd h h1
theorem rblob_fst_err {r : Rd} (h : (rblob r).2.err ≠ 0) : (rblob r).1 = [] := by
  unfold rblob at h ⊢
  split
  · rfl
  · split
    · rfl
    · rename_i h1 h2; rw [if_neg h1, if_neg h2] at h; exact absurd rfl h
end Go.Proofs.YtomdigihapdhnaaGreatDoor.Wi

/- Trees as lists that rise; a tree's bytes, and what bytes tell. -/
namespace Go.Proofs.YtomdigihapdhnaaGreatDoor.Zt
open Go Go.Proofs.YtomdigihapdhnaaGreatDoor.SL Go.Proofs.YtomdigihapdhnaaGreatDoor.Pa Go.Proofs.YtomdigihapdhnaaGreatDoor.Wi
set_option linter.unusedSimpArgs false
set_option linter.unusedVariables false

/-! ### order -/
theorem lookup_iff {st : St} (hk : (st.map (·.1)).Nodup) {k : Str} {n : Nd} : st.lookup k = some n ↔ (k, n) ∈ st := by
  induction st with
  | nil => simp
  | cons p st ih =>
    obtain ⟨p, m⟩ := p
    simp only [List.map_cons, List.nodup_cons] at hk
    rw [List.lookup_cons]
    by_cases c : k = p
    · subst c
      rw [show (k == k) = true by simp]
      simp only [List.mem_cons, Prod.mk.injEq, true_and]
      refine ⟨fun h => .inl (Option.some.inj h).symm, fun h => ?_⟩
      rcases h with h | h
      · rw [h]
      · exact absurd (List.mem_map.2 ⟨_, h, rfl⟩) hk.1
    · rw [show (k == p) = false by simpa using c]
      simp only [List.mem_cons, Prod.mk.injEq, c, false_and, false_or]
      exact ih hk.2
/-! ### what a tree's bytes are -/
/-! ### what bytes tell -/
def more (n : Nd) : Nd := { n with kids := IntKind.i64.wrap (n.kids + 1) }
/-- the kids that stand ahead -/
def pre (a : St) : St := a.map fun p => (p.1, { p.2 with kids := (kc (a.map (·.1)) p.1 : Nat) })
end Go.Proofs.YtomdigihapdhnaaGreatDoor.Zt

/- The tree, the walk: Size, Get, Children, the paths under the root. -/
namespace Go.Proofs.YtomdigihapdhnaaGreatDoor.Zt
open Go Go.Proofs.YtomdigihapdhnaaGreatDoor.SL Go.Proofs.YtomdigihapdhnaaGreatDoor.G Go.Proofs.YtomdigihapdhnaaGreatDoor.Pa
set_option linter.unusedSimpArgs false
set_option linter.unusedVariables false
variable {B : World} {ro σ σ' : AH} {tag tag' : Nat → Nat}

set_option maxRecDepth 100000 in
theorem get_ok {r T M : Nat} {bs : List Nat} {st : St} {p : ByteArray} {Q : Sl → Int → Int → Int → Int → Int → AH → Prop} (g : Glob ro) (hr : r < 64) (hr6 : r ≠ 6) (hr0 : r ≠ 0) (h : TreeAt tag σ r T M bs st) (hdl : ∀ p n, st.lookup p = some n → n.data.length ≤ 256)
    (hbad : parts (L p) = none → ∀ tag' σ', StepC 0 ro tag σ tag' σ' → Q ⟨none, 0, 0⟩ 0 0 0 0 20 σ') (hmiss : ∀ ps, parts (L p) = some ps → st.lookup (L p) = none → ∀ tag' σ', StepC 0 ro tag σ tag' σ' → Q ⟨none, 0, 0⟩ 0 0 0 0 70 σ')
    (hhit : ∀ n, st.lookup (L p) = some n → ∀ s tag' σ', StepC 0 ro tag σ tag' σ' → Row tag' σ' 6 5 s (n.data.map vU) → Q s n.ver n.ctr n.own n.kids 0 σ') : c_ztree_Tree_Get B ro (some ⟨T, 0, none⟩) p σ Q := by
  refine ztree_Tree_Get_ok fun hs => ?_
  unfold f_ztree_Tree_Get
  refine nw_cells (tag := tag) 0 hs fun x tag1 σ1 st1 r1 => ?_
  have hA := h.keep (st1 []) (by simp)
  have hs1 := (st1 []).sep
  have err : ∀ e : Int, (∀ tag' σ', StepC 0 ro tag σ tag' σ' → Q ⟨none, 0, 0⟩ 0 0 0 0 e σ') → stN ⟨x, 0, none⟩ (fun σ => ∃ (x5_4a : Int) (x5_4b : Int) (x5_4c : Int) (x5_4d : Int), cellsAt ro σ ⟨x, 0, none⟩ 0 [.int .i64 x5_4a, .int .i64 x5_4b, .int .i64 x5_4c, .int .i64 x5_4d] ∧ Q (⟨none, 0, 0⟩ : Sl) x5_4a x5_4b x5_4c x5_4d e σ) [.int .i64 0, .int .i64 0, .int .i64 0, .int .i64 0] 0 σ1 := by
    intro e he
    refine r1.stAll hs1 rfl (by simp [storable]) fun σ2 st2 r2 => ?_
    obtain ⟨q, hq, hg⟩ := r2.ptr st2.sep (by simp)
    cases hq
    exact ⟨0, 0, 0, 0, cellsAt_of 0 fun j v hj => by have := hg j v hj; rwa [Nat.mul_one, ← Nat.zero_add j] at this, he tag1 σ2 (((st1 []).c (by simp)).trans (st2.c (by simp)))⟩
  refine find_ok g hA hs1 (fun hb => ?_) (fun ps hps hl => ?_) (fun ps i b n hps hb hp hl => ?_)
  · rw [if_pos (by decide)]
    exact err 20 (hbad hb)
  · rw [if_pos (by decide)]
    exact err 70 (hmiss ps hps hl)
  · rw [if_neg (by decide)]
    obtain ⟨ds, hn, hd⟩ := hA.nodes i b _ hb hp
    obtain ⟨ht0, hto⟩ := hn.tagOf
    refine lent_block b ?_
    have hs2 : SL.Sep (join ro (SL.one σ1 b)) (SL.del σ1 b) := hs1.lent
    refine ⟨_, rfl, _, rfl, n.ver, n.ctr, n.own, n.kids, cellsAt_of 0 fun j v hj => ?_, ds, hn.lend hs1 (i := 4) rfl, ?_⟩
    · rw [Nat.zero_add, ← Nat.mul_one j]
      have hj4 : j < 4 := by
        rcases Nat.lt_or_ge j 4 with h' | h'
        · exact h'
        · rw [List.getElem?_eq_none (by simpa using h')] at hj; cases hj
      refine hn.lend hs1 (i := j) ?_
      rw [← hj]
      rcases j with _ | _ | _ | _ | j
      · rfl
      · rfl
      · rfl
      · rfl
      · omega
    · have hd1 := hd.del (b := b) ht0 (by omega)
      have hx1 := r1.del (b := b) ht0 (by omega)
      refine clone_ok (tag := tag1) (hd1.read hs2) hs2 ?_ (by simp [storable]) fun s' tag2 σ2 st2 r2 => ?_
      · have := hdl _ _ hl; simp; omega
      · have hx2 := hx1.keep (st2 []) (by simp)
        refine hx2.stAll (st2 []).sep rfl (by simp [storable]) fun σ3 st3 r3 => ?_
        intro hdj
        have stB := ((st2 [0]).trans st3).back hs1 hdj hto
        have r4 := r3.back (r' := tag1 b) hdj hto
        have r5 := (r2.keep st3 (by simp)).back (r' := tag1 b) hdj hto
        obtain ⟨q, hq, hg⟩ := r4.ptr stB.sep (by simp)
        cases hq
        refine ⟨n.ver, n.ctr, n.own, n.kids, cellsAt_of 0 fun j v hj => by have := hg j v hj; rwa [Nat.mul_one, ← Nat.zero_add j] at this, ?_⟩
        exact hhit n hl s' _ _ (((st1 []).c (by simp)).trans (stB.c (by simp))) r5

end Go.Proofs.YtomdigihapdhnaaGreatDoor.Zt

/- Functions as predicate transformers, and the proofs that the code does what they tell: printed by wip/tools/gen.py. -/
namespace Go.Proofs.YtomdigihapdhnaaGreatDoor.G
open Go Go.Proofs.YtomdigihapdhnaaGreatDoor.SL
set_option linter.unusedVariables false
set_option linter.unusedSimpArgs false

def f_ref01_Copy (B : World) (ro : AH) (a0 : Sl) (σ : AH) (Q : Sl → AH → Prop) : Prop :=
 nw ro σ (.cells #[Sl.v a0] 24) fun x4_1 σ =>
 c_ref01_Join B ro (⟨some ⟨x4_1, 0, none⟩, 1, 1⟩ : Sl) σ fun x5_2 σ =>
 Q x5_2 σ

set_option maxRecDepth 100000 in
set_option maxHeartbeats 4000000 in
theorem ref01_Copy_ok {B : World} {ro : AH} {a0 : Sl} {σ : AH} {Q : Sl → AH → Prop} (h : Sep ro σ → f_ref01_Copy B ro a0 σ Q) : c_ref01_Copy B ro a0 σ Q := by
  refine ACalls.of_sep fun hsep => ?_
  replace h := h hsep
  refine ACalls.of_body (args := [Sl.v a0]) Tryz.func16 rfl (by rw [Tryz.ntmps16]; simp) ?_
  rw [Tryz.ntmps16]
  unfold f_ref01_Copy at h
  refine AW.seq ?_
  refine AW.reg ?_
  refine Lp (V_asg rfl rfl) rfl rfl ?_
  refine Lnil ?_
  refine thenN ?_
  refine AW.seq ?_
  refine AW.reg ?_
  refine Lp (V_move rfl rfl) rfl rfl ?_
  refine Ls rfl rfl (X_new (A_bsl (vs := [(0, Sl.v a0)]) (cs := #[Sl.v a0]) rfl Tryz.underlying227 ty24 (by decide) rfl rfl) fun x4_1 g1 g2 => ?_)
  replace h := h x4_1 g1 g2
  refine Ls rfl rfl (X_call rfl Tryz.func50 rfl rfl rfl (ACalls.mono h ?_))
  rintro v σ ⟨x5_2, rfl, h⟩
  refine Lp (V_asg rfl rfl) rfl rfl ?_
  refine Lnil ?_
  refine thenN ?_
  refine AW.ret ?_
  exact bR1 Tryz.results16 rfl ⟨_, rfl, h⟩

def f_ref01_Same (B : World) (ro : AH) (a0 : Sl) (a1 : Sl) (σ : AH) (Q : Bool → AH → Prop) : Prop :=
 awp Tryz.prog ro (convert 24 9 (Sl.v a0)) (fun v σ =>
  (∃ (x6_1 : ByteArray), v = .string x6_1 ∧
   awp Tryz.prog ro (convert 24 9 (Sl.v a1)) (fun v σ =>
    (∃ (x8_2 : ByteArray), v = .string x8_2 ∧
     Q (decide (x6_1 = x8_2)) σ)) σ)) σ

set_option maxRecDepth 100000 in
set_option maxHeartbeats 4000000 in
theorem ref01_Same_ok {B : World} {ro : AH} {a0 : Sl} {a1 : Sl} {σ : AH} {Q : Bool → AH → Prop} (h : Sep ro σ → f_ref01_Same B ro a0 a1 σ Q) : c_ref01_Same B ro a0 a1 σ Q := by
  refine ACalls.of_sep fun hsep => ?_
  replace h := h hsep
  refine ACalls.of_body (args := [Sl.v a0, Sl.v a1]) Tryz.func18 rfl (by rw [Tryz.ntmps18]; simp) ?_
  rw [Tryz.ntmps18]
  unfold f_ref01_Same at h
  refine AW.seq ?_
  refine AW.reg ?_
  refine Lp (V_asg rfl rfl) rfl rfl ?_
  refine Lnil ?_
  refine thenN ?_
  refine AW.seq ?_
  refine AW.reg ?_
  refine Lp (V_move rfl rfl) rfl rfl ?_
  refine Ls rfl rfl (X_cvt rfl rfl (awp_mono _ h ?_))
  rintro v σ ⟨x6_1, rfl, h⟩
  refine Lp (V_move rfl rfl) rfl rfl ?_
  refine Ls rfl rfl (X_cvt rfl rfl (awp_mono _ h ?_))
  rintro v σ ⟨x8_2, rfl, h⟩
  refine Lp (V_eqlS rfl rfl rfl) rfl rfl ?_
  refine Lp (V_asg rfl rfl) rfl rfl ?_
  refine Lnil ?_
  refine thenN ?_
  refine AW.ret ?_
  exact bR1 Tryz.results18 rfl ⟨_, rfl, h⟩

def j2_ref01_Join (B : World) (ro : AH) (Q : Sl → AH → Prop) (x3_3 : Sl) (σ : AH) : Prop :=
 Q x3_3 σ

def l4_ref01_Join (B : World) (ro : AH) (a0 : Sl) (Q : Sl → AH → Prop) : (Sl × Int) → AH → ((Sl × Int) → AH → Prop) → Prop := fun ⟨x3_5, x4_6⟩ σ Y4 =>
 if x4_6 < (a0.len : Int) then
  ∃ p15_7 : Addr, a0.a = some p15_7 ∧ (0 : Int) ≤ x4_6 ∧ x4_6 < (a0.len : Int) ∧
  ∃ (x16_8 : Sl), acell ro σ (p15_7.add (Int.toNat x4_6 * 1)) = some (Sl.v x16_8) ∧
  awp Tryz.prog ro (Builtin.append_ #[24, 24] 24 #[Sl.v x3_5, Sl.v x16_8]) (fun v σ => ∃ (x17_9 : Sl), v = Sl.v x17_9 ∧
   Y4 (x17_9, IntKind.i64.wrap (x4_6 + 1)) σ) σ
 else
 j2_ref01_Join B ro Q x3_5 σ

def f_ref01_Join (B : World) (ro : AH) (a0 : Sl) (σ : AH) (Q : Sl → AH → Prop) : Prop :=
 nw ro σ (.cells #[] 5) fun x5_1 σ =>
 lfpD (l4_ref01_Join B ro a0 Q ) ((⟨some ⟨x5_1, 0, none⟩, 0, 0⟩ : Sl), 0) σ

set_option maxRecDepth 100000 in
set_option maxHeartbeats 4000000 in
theorem ref01_Join_ok {B : World} {ro : AH} {a0 : Sl} {σ : AH} {Q : Sl → AH → Prop} (h : Sep ro σ → f_ref01_Join B ro a0 σ Q) : c_ref01_Join B ro a0 σ Q := by
  refine ACalls.of_sep fun hsep => ?_
  replace h := h hsep
  refine ACalls.of_body (args := [Sl.v a0]) Tryz.func50 rfl (by rw [Tryz.ntmps50]; simp) ?_
  rw [Tryz.ntmps50]
  unfold f_ref01_Join at h
  refine AW.seq ?_
  refine AW.reg ?_
  refine Lp (V_asg rfl rfl) rfl rfl ?_
  refine Lnil ?_
  refine thenN ?_
  refine AW.seq ?_
  refine AW.reg ?_
  refine Ls rfl rfl (X_new (A_bsl (vs := []) (cs := #[]) rfl Tryz.underlying24 ty5 (by decide) rfl rfl) fun x5_1 g1 g2 => ?_)
  replace h := h x5_1 g1 g2
  refine Lp (V_asg rfl rfl) rfl rfl ?_
  refine Lnil ?_
  refine thenN ?_
  refine AW.seqJ (fun fr σ => ∃ (x3_3 : Sl), FrLe [(3, Sl.v x3_3)] fr ∧ j2_ref01_Join B ro Q x3_3 σ) ?_ ?_
  · rintro fr σ ⟨x3_3, hl, h⟩
    refine AW.weaken ?_ hl (HLe.refl _)
    unfold j2_ref01_Join at h
    refine AW.seq ?_
    refine AW.reg ?_
    refine Lp (V_move rfl rfl) rfl rfl ?_
    refine Lp (V_asg rfl rfl) rfl rfl ?_
    refine Lnil ?_
    refine thenN ?_
    refine AW.ret ?_
    exact bR1 Tryz.results50 rfl ⟨_, rfl, h⟩
  refine AW.seq ?_
  refine AW.reg ?_
  refine Lp (V_asg rfl rfl) rfl rfl ?_
  refine Lnil ?_
  refine thenN ?_
  refine AW.block ?_
  refine ARound.loop (fr' := [(0, Sl.v a0), (3, Sl.v (⟨some ⟨x5_1, 0, none⟩, 0, 0⟩ : Sl)), (4, .int .i64 0)]) ?_ (FrLe.cons rfl (FrLe.cons rfl (FrLe.cons rfl (FrLe.nil _))))
  refine h (fun ⟨x3_5, x4_6⟩ σ => ARound _ _ _ _ _ _ [(0, Sl.v a0), (3, Sl.v x3_5), (4, .int .i64 x4_6)] σ) ?_
  rintro ⟨x3_5, x4_6⟩ σ Y4 hY4 h
  show AW _ _ _ _ _ _ _ _
  unfold l4_ref01_Join at h
  dsimp only at h
  refine AW.seq ?_
  refine AW.seq ?_
  refine AW.reg ?_
  refine Lp (V_move rfl rfl) rfl rfl ?_
  refine Lp (V_move rfl rfl) rfl rfl ?_
  refine Lp (V_lenL rfl rfl Tryz.underlying227 rfl rfl) rfl rfl ?_
  refine Lp (V_lss rfl rfl rfl) rfl rfl ?_
  refine Lnil ?_
  refine thenN ?_
  refine AW.iff rfl decide_eq_true_iff h (fun h => ?_) (fun h => ?_)
  rotate_left
  · refine AW.exit ?_
    refine thenE ?_
    refine thenE ?_
    refine blockE ?_
    refine thenN ?_
    exact ⟨_, (FrLe.cons rfl (FrLe.nil _)), h⟩
  refine AW.skip ?_
  refine thenN ?_
  refine AW.seq ?_
  refine AW.block ?_
  refine AW.reg ?_
  refine Lp (V_move rfl rfl) rfl rfl ?_
  refine Lp (V_move rfl rfl) rfl rfl ?_
  refine Lp (V_move rfl rfl) rfl rfl ?_
  obtain ⟨p15_7, ha, h0, h1, h⟩ := h
  refine Lp (V_ixA rfl Tryz.underlying227 ty24 (ixL rfl ha) rfl h0 h1) rfl rfl ?_
  obtain ⟨x16_8, hc, h⟩ := h
  refine Ls rfl rfl (X_ld rfl Tryz.underlying24 rfl rfl hc ?_)
  refine Ls rfl rfl (X_bi (s := Builtin.append_ #[24, 24] 24 #[Sl.v x3_5, Sl.v x16_8]) rfl rfl (fun _ => rfl) (awp_mono _ h ?_))
  rintro v σ ⟨x17_9, rfl, h⟩
  refine Lp (V_asg rfl rfl) rfl rfl ?_
  refine Lnil ?_
  refine blockN ?_
  refine thenN ?_
  refine AW.reg ?_
  refine Lp (V_move rfl rfl) rfl rfl ?_
  refine Lp (V_add rfl rfl rfl) rfl rfl ?_
  refine Lp (V_asg rfl rfl) rfl rfl ?_
  refine Lnil ?_
  refine thenN ?_
  refine ARound.head (fr' := [(0, Sl.v a0), (3, Sl.v x17_9), (4, .int .i64 (IntKind.i64.wrap (x4_6 + 1)))]) ?_ (FrLe.cons rfl (FrLe.cons rfl (FrLe.cons rfl (FrLe.nil _))))
  exact hY4 _ _ h

def f_ref01_Blob (B : World) (ro : AH) (a0 : Sl) (σ : AH) (Q : Sl → AH → Prop) : Prop :=
 c_ref01_Put B ro (a0.len : Int) σ fun x5_1 σ =>
 nw ro σ (.cells #[Sl.v x5_1, Sl.v a0] 24) fun x7_2 σ =>
 c_ref01_Join B ro (⟨some ⟨x7_2, 0, none⟩, 2, 2⟩ : Sl) σ fun x8_3 σ =>
 Q x8_3 σ

set_option maxRecDepth 100000 in
set_option maxHeartbeats 4000000 in
theorem ref01_Blob_ok {B : World} {ro : AH} {a0 : Sl} {σ : AH} {Q : Sl → AH → Prop} (h : Sep ro σ → f_ref01_Blob B ro a0 σ Q) : c_ref01_Blob B ro a0 σ Q := by
  refine ACalls.of_sep fun hsep => ?_
  replace h := h hsep
  refine ACalls.of_body (args := [Sl.v a0]) Tryz.func51 rfl (by rw [Tryz.ntmps51]; simp) ?_
  rw [Tryz.ntmps51]
  unfold f_ref01_Blob at h
  refine AW.seq ?_
  refine AW.reg ?_
  refine Lp (V_asg rfl rfl) rfl rfl ?_
  refine Lnil ?_
  refine thenN ?_
  refine AW.seq ?_
  refine AW.reg ?_
  refine Lp (V_move rfl rfl) rfl rfl ?_
  refine Lp (V_lenL rfl rfl Tryz.underlying24 rfl rfl) rfl rfl ?_
  refine Ls rfl rfl (X_call rfl Tryz.func52 rfl rfl rfl (ACalls.mono h ?_))
  rintro v σ ⟨x5_1, rfl, h⟩
  refine Lp (V_move rfl rfl) rfl rfl ?_
  refine Ls rfl rfl (X_new (A_bsl (vs := [(0, Sl.v x5_1), (1, Sl.v a0)]) (cs := #[Sl.v x5_1, Sl.v a0]) rfl Tryz.underlying227 ty24 (by decide) rfl rfl) fun x7_2 g1 g2 => ?_)
  replace h := h x7_2 g1 g2
  refine Ls rfl rfl (X_call rfl Tryz.func50 rfl rfl rfl (ACalls.mono h ?_))
  rintro v σ ⟨x8_3, rfl, h⟩
  refine Lp (V_asg rfl rfl) rfl rfl ?_
  refine Lnil ?_
  refine thenN ?_
  refine AW.ret ?_
  exact bR1 Tryz.results51 rfl ⟨_, rfl, h⟩

def j2_ref01_Put (B : World) (ro : AH) (Q : Sl → AH → Prop) (x0_3 : Int) (x3_4 : Sl) (σ : AH) : Prop :=
 nw ro σ (.cells #[.int .u8 (IntKind.u8.wrap x0_3)] 5) fun x19_5 σ =>
 awp Tryz.prog ro (Builtin.append_ #[24, 24] 24 #[Sl.v x3_4, Sl.v (⟨some ⟨x19_5, 0, none⟩, 1, 1⟩ : Sl)]) (fun v σ => ∃ (x20_6 : Sl), v = Sl.v x20_6 ∧
  Q x20_6 σ) σ

def l7_ref01_Put (B : World) (ro : AH) (Q : Sl → AH → Prop) : (Int × Sl) → AH → ((Int × Sl) → AH → Prop) → Prop := fun ⟨x0_8, x3_9⟩ σ Y7 =>
 if 128 ≤ x0_8 then
  nw ro σ (.cells #[.int .u8 (IntKind.u8.wrap (IntKind.i64.wrap (128 + (Int.tmod x0_8 128))))] 5) fun x12_10 σ =>
  awp Tryz.prog ro (Builtin.append_ #[24, 24] 24 #[Sl.v x3_9, Sl.v (⟨some ⟨x12_10, 0, none⟩, 1, 1⟩ : Sl)]) (fun v σ => ∃ (x13_11 : Sl), v = Sl.v x13_11 ∧
   Y7 (IntKind.i64.wrap (Int.tdiv x0_8 128), x13_11) σ) σ
 else
 j2_ref01_Put B ro Q x0_8 x3_9 σ

def f_ref01_Put (B : World) (ro : AH) (a0 : Int) (σ : AH) (Q : Sl → AH → Prop) : Prop :=
 nw ro σ (.cells #[] 5) fun x4_1 σ =>
 lfpD (l7_ref01_Put B ro Q ) (a0, (⟨some ⟨x4_1, 0, none⟩, 0, 0⟩ : Sl)) σ

set_option maxRecDepth 100000 in
set_option maxHeartbeats 4000000 in
theorem ref01_Put_ok {B : World} {ro : AH} {a0 : Int} {σ : AH} {Q : Sl → AH → Prop} (h : Sep ro σ → f_ref01_Put B ro a0 σ Q) : c_ref01_Put B ro a0 σ Q := by
  refine ACalls.of_sep fun hsep => ?_
  replace h := h hsep
  refine ACalls.of_body (args := [.int .i64 a0]) Tryz.func52 rfl (by rw [Tryz.ntmps52]; simp) ?_
  rw [Tryz.ntmps52]
  unfold f_ref01_Put at h
  refine AW.seq ?_
  refine AW.reg ?_
  refine Lp (V_asg rfl rfl) rfl rfl ?_
  refine Lnil ?_
  refine thenN ?_
  refine AW.seq ?_
  refine AW.reg ?_
  refine Ls rfl rfl (X_new (A_bsl (vs := []) (cs := #[]) rfl Tryz.underlying24 ty5 (by decide) rfl rfl) fun x4_1 g1 g2 => ?_)
  replace h := h x4_1 g1 g2
  refine Lp (V_asg rfl rfl) rfl rfl ?_
  refine Lnil ?_
  refine thenN ?_
  refine AW.seqJ (fun fr σ => ∃ (x0_3 : Int) (x3_4 : Sl), FrLe [(0, .int .i64 x0_3), (3, Sl.v x3_4)] fr ∧ j2_ref01_Put B ro Q x0_3 x3_4 σ) ?_ ?_
  · rintro fr σ ⟨x0_3, x3_4, hl, h⟩
    refine AW.weaken ?_ hl (HLe.refl _)
    unfold j2_ref01_Put at h
    refine AW.seq ?_
    refine AW.reg ?_
    refine Lp (V_move rfl rfl) rfl rfl ?_
    refine Lp (V_move rfl rfl) rfl rfl ?_
    refine Lp (V_cvt rfl rfl Tryz.underlying3 Tryz.underlying5) rfl rfl ?_
    refine Ls rfl rfl (X_new (A_bsl (vs := [(0, .int .u8 (IntKind.u8.wrap x0_3))]) (cs := #[.int .u8 (IntKind.u8.wrap x0_3)]) rfl Tryz.underlying24 ty5 (by decide) rfl rfl) fun x19_5 g1 g2 => ?_)
    replace h := h x19_5 g1 g2
    refine Ls rfl rfl (X_bi (s := Builtin.append_ #[24, 24] 24 #[Sl.v x3_4, Sl.v (⟨some ⟨x19_5, 0, none⟩, 1, 1⟩ : Sl)]) rfl rfl (fun _ => rfl) (awp_mono _ h ?_))
    rintro v σ ⟨x20_6, rfl, h⟩
    refine Lp (V_asg rfl rfl) rfl rfl ?_
    refine Lnil ?_
    refine thenN ?_
    refine AW.ret ?_
    exact bR1 Tryz.results52 rfl ⟨_, rfl, h⟩
  refine AW.block ?_
  refine ARound.loop (fr' := [(0, .int .i64 a0), (3, Sl.v (⟨some ⟨x4_1, 0, none⟩, 0, 0⟩ : Sl))]) ?_ (FrLe.cons rfl (FrLe.cons rfl (FrLe.nil _)))
  refine h (fun ⟨x0_8, x3_9⟩ σ => ARound _ _ _ _ _ _ [(0, .int .i64 x0_8), (3, Sl.v x3_9)] σ) ?_
  rintro ⟨x0_8, x3_9⟩ σ Y7 hY7 h
  show AW _ _ _ _ _ _ _ _
  unfold l7_ref01_Put at h
  dsimp only at h
  refine AW.seq ?_
  refine AW.seq ?_
  refine AW.reg ?_
  refine Lp (V_move rfl rfl) rfl rfl ?_
  refine Lp (V_geq rfl rfl rfl) rfl rfl ?_
  refine Lnil ?_
  refine thenN ?_
  refine AW.iff rfl decide_eq_true_iff h (fun h => ?_) (fun h => ?_)
  rotate_left
  · refine AW.exit ?_
    refine thenE ?_
    refine thenE ?_
    refine blockE ?_
    refine thenN ?_
    exact ⟨_, _, (FrLe.cons rfl (FrLe.cons rfl (FrLe.nil _))), h⟩
  refine AW.skip ?_
  refine thenN ?_
  refine AW.block ?_
  refine AW.seq ?_
  refine AW.reg ?_
  refine Lp (V_move rfl rfl) rfl rfl ?_
  refine Lp (V_move rfl rfl) rfl rfl ?_
  refine Lp (V_rem rfl rfl rfl (by decide)) rfl rfl ?_
  refine Lp (V_add rfl rfl rfl) rfl rfl ?_
  refine Lp (V_cvt rfl rfl Tryz.underlying3 Tryz.underlying5) rfl rfl ?_
  refine Ls rfl rfl (X_new (A_bsl (vs := [(0, .int .u8 (IntKind.u8.wrap (IntKind.i64.wrap (128 + (Int.tmod x0_8 128)))))]) (cs := #[.int .u8 (IntKind.u8.wrap (IntKind.i64.wrap (128 + (Int.tmod x0_8 128))))]) rfl Tryz.underlying24 ty5 (by decide) rfl rfl) fun x12_10 g1 g2 => ?_)
  replace h := h x12_10 g1 g2
  refine Ls rfl rfl (X_bi (s := Builtin.append_ #[24, 24] 24 #[Sl.v x3_9, Sl.v (⟨some ⟨x12_10, 0, none⟩, 1, 1⟩ : Sl)]) rfl rfl (fun _ => rfl) (awp_mono _ h ?_))
  rintro v σ ⟨x13_11, rfl, h⟩
  refine Lp (V_asg rfl rfl) rfl rfl ?_
  refine Lnil ?_
  refine thenN ?_
  refine AW.reg ?_
  refine Lp (V_move rfl rfl) rfl rfl ?_
  refine Lp (V_quo rfl rfl rfl (by decide)) rfl rfl ?_
  refine Lp (V_asg rfl rfl) rfl rfl ?_
  refine Lnil ?_
  refine blockN ?_
  refine thenN ?_
  refine ARound.head (fr' := [(0, .int .i64 (IntKind.i64.wrap (Int.tdiv x0_8 128))), (3, Sl.v x13_11)]) ?_ (FrLe.cons rfl (FrLe.cons rfl (FrLe.nil _)))
  exact hY7 _ _ h

def f_ref01_Reader_Num (B : World) (ro : AH) (a0 : Option Addr) (σ : AH) (Q : Int → AH → Prop) : Prop :=
 ∃ p7_1 : Addr, a0 = some p7_1 ∧
 ∃ (x9_2 : Int), acell ro σ (p7_1.add 2) = some (.int .i64 x9_2) ∧
 if ¬ (x9_2 = 0) then
  Q 0 σ
 else
 ∃ p13_3 : Addr, a0 = some p13_3 ∧
 ∃ p17_4 : Addr, a0 = some p17_4 ∧
 ∃ (x15_5 : Sl), acell ro σ p13_3 = some (Sl.v x15_5) ∧
 ∃ (x19_6 : Int), acell ro σ (p17_4.add 1) = some (.int .i64 x19_6) ∧
 c_ref01_Number B ro x15_5 x19_6 σ fun x20_7 x20_8 x20_9 σ =>
 if ¬ (x20_9 = 0) then
  ∃ p28_10 : Addr, a0 = some p28_10 ∧
  stN (p28_10.add 2) (fun σ =>
   Q 0 σ) [.int .i64 x20_9] 0 σ
 else
 ∃ p32_11 : Addr, a0 = some p32_11 ∧
 stN (p32_11.add 1) (fun σ =>
  Q x20_7 σ) [.int .i64 x20_8] 0 σ

set_option maxRecDepth 100000 in
set_option maxHeartbeats 4000000 in
theorem ref01_Reader_Num_ok {B : World} {ro : AH} {a0 : Option Addr} {σ : AH} {Q : Int → AH → Prop} (h : Sep ro σ → f_ref01_Reader_Num B ro a0 σ Q) : c_ref01_Reader_Num B ro a0 σ Q := by
  refine ACalls.of_sep fun hsep => ?_
  replace h := h hsep
  refine ACalls.of_body (args := [.pointer a0]) Tryz.func59 rfl (by rw [Tryz.ntmps59]; simp) ?_
  rw [Tryz.ntmps59]
  unfold f_ref01_Reader_Num at h
  refine AW.seq ?_
  refine AW.reg ?_
  refine Lp (V_asg rfl rfl) rfl rfl ?_
  refine Lnil ?_
  refine thenN ?_
  refine AW.seq ?_
  refine AW.seq ?_
  refine AW.reg ?_
  refine Lp (V_move rfl rfl) rfl rfl ?_
  obtain ⟨p7_1, hc, h⟩ := h
  refine Lp (V_nil rfl (by rw [← hc]; rfl)) rfl rfl ?_
  refine Lp (V_fld rfl Tryz.underlying147 rfl ty3 (by decide) rfl) rfl rfl ?_
  obtain ⟨x9_2, hc, h⟩ := h
  refine Ls rfl rfl (X_ld rfl Tryz.underlying3 rfl rfl hc ?_)
  refine Lp (V_neq rfl rfl rfl) rfl rfl ?_
  refine Lnil ?_
  refine thenN ?_
  refine AW.iff rfl (bnot_iff decide_eq_true_iff) h (fun h => ?_) (fun h => ?_)
  · refine AW.seq ?_
    refine AW.reg ?_
    refine Lp (V_asg rfl rfl) rfl rfl ?_
    refine Lnil ?_
    refine thenN ?_
    refine AW.ret ?_
    refine thenR ?_
    exact bR1 Tryz.results59 rfl ⟨_, rfl, h⟩
  refine AW.skip ?_
  refine thenN ?_
  refine AW.seq ?_
  refine AW.drawn0 (fun i => ([0, 0, 0, 3, 0, 0, 0, 3, 2, 0, 0, 0, 0, 0, 0, 0] : List Nat).getD i 2) [] [0, 1, 2, 4, 5, 6, 3, 7, 8, 9, 10, 11, 12, 13, 14, 15] Tryz.mixed (by decide +kernel) ?_
  refine Dp rfl rfl rfl rfl (V_move rfl rfl) ?_
  obtain ⟨p13_3, hc, h⟩ := h
  refine Dp rfl rfl rfl rfl (V_nil rfl (by rw [← hc]; rfl)) ?_
  refine Dp rfl rfl rfl rfl (V_fld rfl Tryz.underlying147 rfl ty24 (by decide) rfl) ?_
  refine Dp rfl rfl rfl rfl (V_move rfl rfl) ?_
  obtain ⟨p17_4, hc, h⟩ := h
  refine Dp rfl rfl rfl rfl (V_nil rfl (by rw [← hc]; rfl)) ?_
  refine Dp rfl rfl rfl rfl (V_fld rfl Tryz.underlying147 rfl ty3 (by decide) rfl) ?_
  obtain ⟨x15_5, hc, h⟩ := h
  refine Dr rfl rfl rfl rfl (R_ld rfl Tryz.underlying24 rfl rfl hc) ?_
  obtain ⟨x19_6, hc, h⟩ := h
  refine Dr rfl rfl rfl rfl (R_ld rfl Tryz.underlying3 rfl rfl hc) ?_
  refine Dg rfl rfl rfl rfl (X_call rfl Tryz.func120 rfl rfl rfl (ACalls.mono h ?_))
  rintro v σ ⟨x20_7, x20_8, x20_9, rfl, h⟩
  refine Dp rfl rfl rfl rfl (V_move rfl rfl) ?_
  refine Dp rfl rfl rfl rfl (V_ext rfl rfl rfl) ?_
  refine Dp rfl rfl rfl rfl (V_ext rfl rfl rfl) ?_
  refine Dp rfl rfl rfl rfl (V_ext rfl rfl rfl) ?_
  refine Dp rfl rfl rfl rfl (V_asg rfl rfl) ?_
  refine Dp rfl rfl rfl rfl (V_asg rfl rfl) ?_
  refine Dp rfl rfl rfl rfl (V_asg rfl rfl) ?_
  refine Dend ?_
  refine thenN ?_
  refine AW.seq ?_
  refine AW.seq ?_
  refine AW.reg ?_
  refine Lp (V_move rfl rfl) rfl rfl ?_
  refine Lp (V_neq rfl rfl rfl) rfl rfl ?_
  refine Lnil ?_
  refine thenN ?_
  refine AW.iff rfl (bnot_iff decide_eq_true_iff) h (fun h => ?_) (fun h => ?_)
  · refine AW.seq ?_
    refine AW.reg ?_
    refine Lp (V_move rfl rfl) rfl rfl ?_
    refine Lp (V_move rfl rfl) rfl rfl ?_
    obtain ⟨p28_10, hc, h⟩ := h
    refine Lp (V_nil rfl (by rw [← hc]; rfl)) rfl rfl ?_
    refine Lp (V_fld rfl Tryz.underlying147 rfl ty3 (by decide) rfl) rfl rfl ?_
    refine Ls rfl rfl (X_st rfl ty3 rfl rfl rfl rfl (stN_mono h fun σ h => ?_))
    refine Lnil ?_
    refine thenN ?_
    refine AW.seq ?_
    refine AW.reg ?_
    refine Lp (V_asg rfl rfl) rfl rfl ?_
    refine Lnil ?_
    refine thenN ?_
    refine AW.ret ?_
    refine thenR ?_
    exact bR1 Tryz.results59 rfl ⟨_, rfl, h⟩
  refine AW.skip ?_
  refine thenN ?_
  refine AW.seq ?_
  refine AW.reg ?_
  refine Lp (V_move rfl rfl) rfl rfl ?_
  refine Lp (V_move rfl rfl) rfl rfl ?_
  obtain ⟨p32_11, hc, h⟩ := h
  refine Lp (V_nil rfl (by rw [← hc]; rfl)) rfl rfl ?_
  refine Lp (V_fld rfl Tryz.underlying147 rfl ty3 (by decide) rfl) rfl rfl ?_
  refine Ls rfl rfl (X_st rfl ty3 rfl rfl rfl rfl (stN_mono h fun σ h => ?_))
  refine Lnil ?_
  refine thenN ?_
  refine AW.seq ?_
  refine AW.reg ?_
  refine Lp (V_move rfl rfl) rfl rfl ?_
  refine Lp (V_asg rfl rfl) rfl rfl ?_
  refine Lnil ?_
  refine thenN ?_
  refine AW.ret ?_
  exact bR1 Tryz.results59 rfl ⟨_, rfl, h⟩

def f_ref01_Reader_Blob (B : World) (ro : AH) (a0 : Option Addr) (σ : AH) (Q : Sl → AH → Prop) : Prop :=
 ∃ p7_1 : Addr, a0 = some p7_1 ∧
 ∃ (x9_2 : Int), acell ro σ (p7_1.add 1) = some (.int .i64 x9_2) ∧
 c_ref01_Reader_Num B ro a0 σ fun x11_3 σ =>
 ∃ p13_4 : Addr, a0 = some p13_4 ∧
 ∃ (x15_5 : Int), acell ro σ (p13_4.add 2) = some (.int .i64 x15_5) ∧
 if ¬ (x15_5 = 0) then
  Q (⟨none, 0, 0⟩ : Sl) σ
 else
 c_ref01_Reader_Left B ro a0 σ fun x19_6 σ =>
 if x19_6 < x11_3 then
  ∃ p22_7 : Addr, a0 = some p22_7 ∧
  stN (p22_7.add 2) (fun σ =>
   ∃ p26_8 : Addr, a0 = some p26_8 ∧
   stN (p26_8.add 1) (fun σ =>
    Q (⟨none, 0, 0⟩ : Sl) σ) [.int .i64 x9_2] 0 σ) [.int .i64 12] 0 σ
 else
 ∃ p29_9 : Addr, a0 = some p29_9 ∧
 ∃ p33_10 : Addr, a0 = some p33_10 ∧
 ∃ p37_11 : Addr, a0 = some p37_11 ∧
 ∃ (x31_12 : Sl), acell ro σ p29_9 = some (Sl.v x31_12) ∧
 ∃ (x35_13 : Int), acell ro σ (p33_10.add 1) = some (.int .i64 x35_13) ∧
 ∃ (x39_14 : Int), acell ro σ (p37_11.add 1) = some (.int .i64 x39_14) ∧
 cutOk (some x35_13) (some (IntKind.i64.wrap (x39_14 + x11_3))) x31_12.len x31_12.cap ∧
 c_ref01_Copy B ro (⟨cutA x31_12.a (Int.toNat x35_13) x31_12.cap 1, Int.toNat (IntKind.i64.wrap (x39_14 + x11_3)) - Int.toNat x35_13, x31_12.cap - Int.toNat x35_13⟩ : Sl) σ fun x43_15 σ =>
 ∃ p45_16 : Addr, a0 = some p45_16 ∧
 ∃ (x47_17 : Int), acell ro σ (p45_16.add 1) = some (.int .i64 x47_17) ∧
 ∃ p50_18 : Addr, a0 = some p50_18 ∧
 stN (p50_18.add 1) (fun σ =>
  Q x43_15 σ) [.int .i64 (IntKind.i64.wrap (x47_17 + x11_3))] 0 σ

set_option maxRecDepth 100000 in
set_option maxHeartbeats 4000000 in
theorem ref01_Reader_Blob_ok {B : World} {ro : AH} {a0 : Option Addr} {σ : AH} {Q : Sl → AH → Prop} (h : Sep ro σ → f_ref01_Reader_Blob B ro a0 σ Q) : c_ref01_Reader_Blob B ro a0 σ Q := by
  refine ACalls.of_sep fun hsep => ?_
  replace h := h hsep
  refine ACalls.of_body (args := [.pointer a0]) Tryz.func60 rfl (by rw [Tryz.ntmps60]; simp) ?_
  rw [Tryz.ntmps60]
  unfold f_ref01_Reader_Blob at h
  refine AW.seq ?_
  refine AW.reg ?_
  refine Lp (V_asg rfl rfl) rfl rfl ?_
  refine Lnil ?_
  refine thenN ?_
  refine AW.seq ?_
  refine AW.reg ?_
  refine Lp (V_move rfl rfl) rfl rfl ?_
  obtain ⟨p7_1, hc, h⟩ := h
  refine Lp (V_nil rfl (by rw [← hc]; rfl)) rfl rfl ?_
  refine Lp (V_fld rfl Tryz.underlying147 rfl ty3 (by decide) rfl) rfl rfl ?_
  obtain ⟨x9_2, hc, h⟩ := h
  refine Ls rfl rfl (X_ld rfl Tryz.underlying3 rfl rfl hc ?_)
  refine Lp (V_asg rfl rfl) rfl rfl ?_
  refine Lnil ?_
  refine thenN ?_
  refine AW.seq ?_
  refine AW.reg ?_
  refine Lp (V_move rfl rfl) rfl rfl ?_
  refine Ls rfl rfl (X_call rfl Tryz.func59 rfl rfl rfl (ACalls.mono h ?_))
  rintro v σ ⟨x11_3, rfl, h⟩
  refine Lp (V_asg rfl rfl) rfl rfl ?_
  refine Lnil ?_
  refine thenN ?_
  refine AW.seq ?_
  refine AW.seq ?_
  refine AW.reg ?_
  refine Lp (V_move rfl rfl) rfl rfl ?_
  obtain ⟨p13_4, hc, h⟩ := h
  refine Lp (V_nil rfl (by rw [← hc]; rfl)) rfl rfl ?_
  refine Lp (V_fld rfl Tryz.underlying147 rfl ty3 (by decide) rfl) rfl rfl ?_
  obtain ⟨x15_5, hc, h⟩ := h
  refine Ls rfl rfl (X_ld rfl Tryz.underlying3 rfl rfl hc ?_)
  refine Lp (V_neq rfl rfl rfl) rfl rfl ?_
  refine Lnil ?_
  refine thenN ?_
  refine AW.iff rfl (bnot_iff decide_eq_true_iff) h (fun h => ?_) (fun h => ?_)
  · refine AW.seq ?_
    refine AW.reg ?_
    refine Lp (V_asg rfl rfl) rfl rfl ?_
    refine Lnil ?_
    refine thenN ?_
    refine AW.ret ?_
    refine thenR ?_
    exact bR1 Tryz.results60 rfl ⟨_, rfl, h⟩
  refine AW.skip ?_
  refine thenN ?_
  refine AW.seq ?_
  refine AW.seq ?_
  refine AW.reg ?_
  refine Lp (V_move rfl rfl) rfl rfl ?_
  refine Lp (V_move rfl rfl) rfl rfl ?_
  refine Ls rfl rfl (X_call rfl Tryz.func61 rfl rfl rfl (ACalls.mono h ?_))
  rintro v σ ⟨x19_6, rfl, h⟩
  refine Lp (V_gtr rfl rfl rfl) rfl rfl ?_
  refine Lnil ?_
  refine thenN ?_
  refine AW.iff rfl decide_eq_true_iff h (fun h => ?_) (fun h => ?_)
  · refine AW.seq ?_
    refine AW.reg ?_
    refine Lp (V_move rfl rfl) rfl rfl ?_
    obtain ⟨p22_7, hc, h⟩ := h
    refine Lp (V_nil rfl (by rw [← hc]; rfl)) rfl rfl ?_
    refine Lp (V_fld rfl Tryz.underlying147 rfl ty3 (by decide) rfl) rfl rfl ?_
    refine Ls rfl rfl (X_st rfl ty3 rfl rfl rfl rfl (stN_mono h fun σ h => ?_))
    refine Lnil ?_
    refine thenN ?_
    refine AW.seq ?_
    refine AW.reg ?_
    refine Lp (V_move rfl rfl) rfl rfl ?_
    refine Lp (V_move rfl rfl) rfl rfl ?_
    obtain ⟨p26_8, hc, h⟩ := h
    refine Lp (V_nil rfl (by rw [← hc]; rfl)) rfl rfl ?_
    refine Lp (V_fld rfl Tryz.underlying147 rfl ty3 (by decide) rfl) rfl rfl ?_
    refine Ls rfl rfl (X_st rfl ty3 rfl rfl rfl rfl (stN_mono h fun σ h => ?_))
    refine Lnil ?_
    refine thenN ?_
    refine AW.seq ?_
    refine AW.reg ?_
    refine Lp (V_asg rfl rfl) rfl rfl ?_
    refine Lnil ?_
    refine thenN ?_
    refine AW.ret ?_
    refine thenR ?_
    exact bR1 Tryz.results60 rfl ⟨_, rfl, h⟩
  refine AW.skip ?_
  refine thenN ?_
  refine AW.seq ?_
  refine AW.drawn0 (fun i => ([0, 0, 0, 3, 0, 0, 0, 3, 0, 0, 0, 3, 0, 0, 0, 2, 0] : List Nat).getD i 2) [(3, 14), (3, 15), (7, 14), (7, 15), (11, 13), (11, 14), (11, 15)] [0, 1, 2, 4, 5, 6, 8, 9, 10, 12, 3, 7, 11, 13, 14, 15, 16] Tryz.mixed (by decide +kernel) ?_
  refine Dp rfl rfl rfl rfl (V_move rfl rfl) ?_
  obtain ⟨p29_9, hc, h⟩ := h
  refine Dp rfl rfl rfl rfl (V_nil rfl (by rw [← hc]; rfl)) ?_
  refine Dp rfl rfl rfl rfl (V_fld rfl Tryz.underlying147 rfl ty24 (by decide) rfl) ?_
  refine Dp rfl rfl rfl rfl (V_move rfl rfl) ?_
  obtain ⟨p33_10, hc, h⟩ := h
  refine Dp rfl rfl rfl rfl (V_nil rfl (by rw [← hc]; rfl)) ?_
  refine Dp rfl rfl rfl rfl (V_fld rfl Tryz.underlying147 rfl ty3 (by decide) rfl) ?_
  refine Dp rfl rfl rfl rfl (V_move rfl rfl) ?_
  obtain ⟨p37_11, hc, h⟩ := h
  refine Dp rfl rfl rfl rfl (V_nil rfl (by rw [← hc]; rfl)) ?_
  refine Dp rfl rfl rfl rfl (V_fld rfl Tryz.underlying147 rfl ty3 (by decide) rfl) ?_
  refine Dp rfl rfl rfl rfl (V_move rfl rfl) ?_
  obtain ⟨x31_12, hc, h⟩ := h
  refine Dr rfl rfl rfl rfl (R_ld rfl Tryz.underlying24 rfl rfl hc) ?_
  obtain ⟨x35_13, hc, h⟩ := h
  refine Dr rfl rfl rfl rfl (R_ld rfl Tryz.underlying3 rfl rfl hc) ?_
  obtain ⟨x39_14, hc, h⟩ := h
  refine Dr rfl rfl rfl rfl (R_ld rfl Tryz.underlying3 rfl rfl hc) ?_
  refine Dp rfl rfl rfl rfl (V_add rfl rfl rfl) ?_
  obtain ⟨hc, h⟩ := h
  refine Dp rfl rfl rfl rfl (V_slL (lo := (some x35_13)) (hi := (some (IntKind.i64.wrap (x39_14 + x11_3)))) rfl Tryz.underlying24 ty5 rfl (optI_some rfl) (optI_some rfl) hc) ?_
  refine Dg rfl rfl rfl rfl (X_call rfl Tryz.func16 rfl rfl rfl (ACalls.mono h ?_))
  rintro v σ ⟨x43_15, rfl, h⟩
  refine Dp rfl rfl rfl rfl (V_asg rfl rfl) ?_
  refine Dend ?_
  refine thenN ?_
  refine AW.seq ?_
  refine AW.reg ?_
  refine Lp (V_move rfl rfl) rfl rfl ?_
  obtain ⟨p45_16, hc, h⟩ := h
  refine Lp (V_nil rfl (by rw [← hc]; rfl)) rfl rfl ?_
  refine Lp (V_fld rfl Tryz.underlying147 rfl ty3 (by decide) rfl) rfl rfl ?_
  obtain ⟨x47_17, hc, h⟩ := h
  refine Ls rfl rfl (X_ld rfl Tryz.underlying3 rfl rfl hc ?_)
  refine Lp (V_move rfl rfl) rfl rfl ?_
  refine Lp (V_add rfl rfl rfl) rfl rfl ?_
  obtain ⟨p50_18, hc, h⟩ := h
  refine Lp (V_nil rfl (by rw [← hc]; rfl)) rfl rfl ?_
  refine Lp (V_fld rfl Tryz.underlying147 rfl ty3 (by decide) rfl) rfl rfl ?_
  refine Ls rfl rfl (X_st rfl ty3 rfl rfl rfl rfl (stN_mono h fun σ h => ?_))
  refine Lnil ?_
  refine thenN ?_
  refine AW.seq ?_
  refine AW.reg ?_
  refine Lp (V_move rfl rfl) rfl rfl ?_
  refine Lp (V_asg rfl rfl) rfl rfl ?_
  refine Lnil ?_
  refine thenN ?_
  refine AW.ret ?_
  exact bR1 Tryz.results60 rfl ⟨_, rfl, h⟩

def f_ref01_Reader_Left (B : World) (ro : AH) (a0 : Option Addr) (σ : AH) (Q : Int → AH → Prop) : Prop :=
 ∃ p4_1 : Addr, a0 = some p4_1 ∧
 ∃ p9_2 : Addr, a0 = some p9_2 ∧
 ∃ (x6_3 : Sl), acell ro σ p4_1 = some (Sl.v x6_3) ∧
 ∃ (x11_4 : Int), acell ro σ (p9_2.add 1) = some (.int .i64 x11_4) ∧
 Q (IntKind.i64.wrap ((x6_3.len : Int) - x11_4)) σ

set_option maxRecDepth 100000 in
set_option maxHeartbeats 4000000 in
theorem ref01_Reader_Left_ok {B : World} {ro : AH} {a0 : Option Addr} {σ : AH} {Q : Int → AH → Prop} (h : Sep ro σ → f_ref01_Reader_Left B ro a0 σ Q) : c_ref01_Reader_Left B ro a0 σ Q := by
  refine ACalls.of_sep fun hsep => ?_
  replace h := h hsep
  refine ACalls.of_body (args := [.pointer a0]) Tryz.func61 rfl (by rw [Tryz.ntmps61]; simp) ?_
  rw [Tryz.ntmps61]
  unfold f_ref01_Reader_Left at h
  refine AW.seq ?_
  refine AW.reg ?_
  refine Lp (V_asg rfl rfl) rfl rfl ?_
  refine Lnil ?_
  refine thenN ?_
  refine AW.seq ?_
  refine AW.drawn0 (fun i => ([0, 0, 0, 3, 0, 0, 0, 0, 3, 0, 0] : List Nat).getD i 2) [] [0, 1, 2, 5, 6, 7, 3, 4, 8, 9, 10] Tryz.mixed (by decide +kernel) ?_
  refine Dp rfl rfl rfl rfl (V_move rfl rfl) ?_
  obtain ⟨p4_1, hc, h⟩ := h
  refine Dp rfl rfl rfl rfl (V_nil rfl (by rw [← hc]; rfl)) ?_
  refine Dp rfl rfl rfl rfl (V_fld rfl Tryz.underlying147 rfl ty24 (by decide) rfl) ?_
  refine Dp rfl rfl rfl rfl (V_move rfl rfl) ?_
  obtain ⟨p9_2, hc, h⟩ := h
  refine Dp rfl rfl rfl rfl (V_nil rfl (by rw [← hc]; rfl)) ?_
  refine Dp rfl rfl rfl rfl (V_fld rfl Tryz.underlying147 rfl ty3 (by decide) rfl) ?_
  obtain ⟨x6_3, hc, h⟩ := h
  refine Dr rfl rfl rfl rfl (R_ld rfl Tryz.underlying24 rfl rfl hc) ?_
  refine Dp rfl rfl rfl rfl (V_lenL rfl rfl Tryz.underlying24 rfl rfl) ?_
  obtain ⟨x11_4, hc, h⟩ := h
  refine Dr rfl rfl rfl rfl (R_ld rfl Tryz.underlying3 rfl rfl hc) ?_
  refine Dp rfl rfl rfl rfl (V_sub rfl rfl rfl) ?_
  refine Dp rfl rfl rfl rfl (V_asg rfl rfl) ?_
  refine Dend ?_
  refine thenN ?_
  refine AW.ret ?_
  exact bR1 Tryz.results61 rfl ⟨_, rfl, h⟩

def f_ref01_Bad (B : World) (ro : AH) (a0 : Int) (σ : AH) (Q : Bool → AH → Prop) : Prop :=
 Q ((decide (a0 < 0)) || (decide (4611686018427387903 < a0))) σ

set_option maxRecDepth 100000 in
set_option maxHeartbeats 4000000 in
theorem ref01_Bad_ok {B : World} {ro : AH} {a0 : Int} {σ : AH} {Q : Bool → AH → Prop} (h : Sep ro σ → f_ref01_Bad B ro a0 σ Q) : c_ref01_Bad B ro a0 σ Q := by
  refine ACalls.of_sep fun hsep => ?_
  replace h := h hsep
  refine ACalls.of_body (args := [.int .i64 a0]) Tryz.func118 rfl (by rw [Tryz.ntmps118]; simp) ?_
  rw [Tryz.ntmps118]
  unfold f_ref01_Bad at h
  refine AW.seq ?_
  refine AW.reg ?_
  refine Lp (V_asg rfl rfl) rfl rfl ?_
  refine Lnil ?_
  refine thenN ?_
  refine AW.seq ?_
  refine AW.reg ?_
  refine Lp (V_move rfl rfl) rfl rfl ?_
  refine Lp (V_lss rfl rfl rfl) rfl rfl ?_
  refine Lp (V_move rfl rfl) rfl rfl ?_
  refine Lsplit 3 (decide (a0 < 0)) [(8, .bool ((decide (a0 < 0)) || (decide (4611686018427387903 < a0))))] ?_ ?_ ?_
  · intro e2 hk2
    refine Ln rfl rfl rfl rfl (.inl (by rw [e2]; rfl)) ?_
    refine Ln rfl rfl rfl rfl (.inl (by rw [e2]; rfl)) ?_
    refine Lp (V_pickT rfl (evb e2) rfl) rfl rfl ?_
    exact hk2 _ (FrLe.cons (by rw [e2]; rfl) (FrLe.nil _))
  · intro e2 hk2
    refine Lypb (V_move rfl rfl) rfl rfl rfl rfl e2 ?_
    refine Lypb (V_gtr rfl rfl rfl) rfl rfl rfl rfl e2 ?_
    refine Lp (V_pickF rfl (evb e2) rfl) rfl rfl ?_
    exact hk2 _ (FrLe.cons (by rw [e2]; rfl) (FrLe.nil _))
  intro fr hl
  refine Lfr hl ?_
  refine Lp (V_asg rfl rfl) rfl rfl ?_
  refine Lnil ?_
  refine thenN ?_
  refine AW.ret ?_
  exact bR1 Tryz.results118 rfl ⟨_, rfl, h⟩

def j7_ref01_Number (B : World) (ro : AH) (a1 : Int) (x7_2 : Int) (Q : Int → Int → Int → AH → Prop) (x9_8 : Int) (σ : AH) : Prop :=
 Q x9_8 (IntKind.i64.wrap ((IntKind.i64.wrap (a1 + x7_2)) + 1)) 0 σ

def l9_ref01_Number (B : World) (ro : AH) (a0 : Sl) (a1 : Int) (x7_2 : Int) (Q : Int → Int → Int → AH → Prop) : (Int × Int) → AH → ((Int × Int) → AH → Prop) → Prop := fun ⟨x9_10, x10_11⟩ σ Y9 =>
 if 0 ≤ x10_11 then
  ∃ p90_12 : Addr, a0.a = some p90_12 ∧ (0 : Int) ≤ (IntKind.i64.wrap (a1 + x10_11)) ∧ (IntKind.i64.wrap (a1 + x10_11)) < (a0.len : Int) ∧
  ∃ (x91_13 : Int), acell ro σ (p90_12.add (Int.toNat (IntKind.i64.wrap (a1 + x10_11)) * 1)) = some (.int .u8 x91_13) ∧
  Y9 (IntKind.i64.wrap ((IntKind.i64.wrap (x9_10 * 128)) + (Int.tmod (IntKind.i64.wrap x91_13) 128)), IntKind.i64.wrap (x10_11 - 1)) σ
 else
 j7_ref01_Number B ro a1 x7_2 Q x9_10 σ

def j5_ref01_Number (B : World) (ro : AH) (a0 : Sl) (a1 : Int) (x7_2 : Int) (Q : Int → Int → Int → AH → Prop) (x78_6 : Bool) (σ : AH) : Prop :=
 if x78_6 = true then
  Q 0 0 13 σ
 else
 lfpD (l9_ref01_Number B ro a0 a1 x7_2 Q ) (0, x7_2) σ

def j14_ref01_Number (B : World) (ro : AH) (a0 : Sl) (a1 : Int) (x7_2 : Int) (x66_4 : Bool) (Q : Int → Int → Int → AH → Prop) (x77_15 : Bool) (σ : AH) : Prop :=
 j5_ref01_Number B ro a0 a1 x7_2 Q x77_15 σ

def j3_ref01_Number (B : World) (ro : AH) (a0 : Sl) (a1 : Int) (x7_2 : Int) (Q : Int → Int → Int → AH → Prop) (x66_4 : Bool) (σ : AH) : Prop :=
 if x66_4 = true then
  j5_ref01_Number B ro a0 a1 x7_2 Q true σ
 else
 if x7_2 = 8 then
  ∃ p74_16 : Addr, a0.a = some p74_16 ∧ (0 : Int) ≤ (IntKind.i64.wrap (a1 + 8)) ∧ (IntKind.i64.wrap (a1 + 8)) < (a0.len : Int) ∧
  ∃ (x75_17 : Int), acell ro σ (p74_16.add (Int.toNat (IntKind.i64.wrap (a1 + 8)) * 1)) = some (.int .u8 x75_17) ∧
  j14_ref01_Number B ro a0 a1 x7_2 x66_4 Q (decide (63 < x75_17)) σ
 else
 j14_ref01_Number B ro a0 a1 x7_2 x66_4 Q false σ

def j18_ref01_Number (B : World) (ro : AH) (a0 : Sl) (a1 : Int) (x7_2 : Int) (Q : Int → Int → Int → AH → Prop) (x65_19 : Bool) (σ : AH) : Prop :=
 j3_ref01_Number B ro a0 a1 x7_2 Q x65_19 σ

def j1_ref01_Number (B : World) (ro : AH) (a0 : Sl) (a1 : Int) (Q : Int → Int → Int → AH → Prop) (x7_2 : Int) (σ : AH) : Prop :=
 if (x7_2 < 0) ∧ ((IntKind.i64.wrap ((a0.len : Int) - a1)) < 9) then
  Q 0 0 12 σ
 else
 if x7_2 < 0 then
  j3_ref01_Number B ro a0 a1 x7_2 Q true σ
 else
 if 0 < x7_2 then
  ∃ p62_20 : Addr, a0.a = some p62_20 ∧ (0 : Int) ≤ (IntKind.i64.wrap (a1 + x7_2)) ∧ (IntKind.i64.wrap (a1 + x7_2)) < (a0.len : Int) ∧
  ∃ (x63_21 : Int), acell ro σ (p62_20.add (Int.toNat (IntKind.i64.wrap (a1 + x7_2)) * 1)) = some (.int .u8 x63_21) ∧
  j18_ref01_Number B ro a0 a1 x7_2 Q (decide (x63_21 = 0)) σ
 else
 j18_ref01_Number B ro a0 a1 x7_2 Q false σ

def j25_ref01_Number (B : World) (ro : AH) (a0 : Sl) (a1 : Int) (x8_24 : Int) (Q : Int → Int → Int → AH → Prop) (Y22 : (Int × Int) → AH → Prop) (x7_26 : Int) (σ : AH) : Prop :=
 Y22 (x7_26, IntKind.i64.wrap (x8_24 + 1)) σ

def l22_ref01_Number (B : World) (ro : AH) (a0 : Sl) (a1 : Int) (Q : Int → Int → Int → AH → Prop) : (Int × Int) → AH → ((Int × Int) → AH → Prop) → Prop := fun ⟨x7_23, x8_24⟩ σ Y22 =>
 if ((x8_24 < 9) ∧ ((IntKind.i64.wrap (a1 + x8_24)) < (a0.len : Int))) ∧ (x7_23 < 0) then
  ∃ p39_27 : Addr, a0.a = some p39_27 ∧ (0 : Int) ≤ (IntKind.i64.wrap (a1 + x8_24)) ∧ (IntKind.i64.wrap (a1 + x8_24)) < (a0.len : Int) ∧
  ∃ (x40_28 : Int), acell ro σ (p39_27.add (Int.toNat (IntKind.i64.wrap (a1 + x8_24)) * 1)) = some (.int .u8 x40_28) ∧
  if x40_28 < 128 then
   j25_ref01_Number B ro a0 a1 x8_24 Q Y22 x8_24 σ
  else
  j25_ref01_Number B ro a0 a1 x8_24 Q Y22 x7_23 σ
 else
 j1_ref01_Number B ro a0 a1 Q x7_23 σ

def f_ref01_Number (B : World) (ro : AH) (a0 : Sl) (a1 : Int) (σ : AH) (Q : Int → Int → Int → AH → Prop) : Prop :=
 if (a1 < 0) ∨ ((a0.len : Int) < a1) then
  Q 0 0 11 σ
 else
 lfpD (l22_ref01_Number B ro a0 a1 Q ) ((-1), 0) σ

set_option maxRecDepth 100000 in
set_option maxHeartbeats 4000000 in
theorem ref01_Number_ok {B : World} {ro : AH} {a0 : Sl} {a1 : Int} {σ : AH} {Q : Int → Int → Int → AH → Prop} (h : Sep ro σ → f_ref01_Number B ro a0 a1 σ Q) : c_ref01_Number B ro a0 a1 σ Q := by
  refine ACalls.of_sep fun hsep => ?_
  replace h := h hsep
  refine ACalls.of_body (args := [Sl.v a0, .int .i64 a1]) Tryz.func120 rfl (by rw [Tryz.ntmps120]; simp) ?_
  rw [Tryz.ntmps120]
  unfold f_ref01_Number at h
  refine AW.seq ?_
  refine AW.reg ?_
  refine Lp (V_asg rfl rfl) rfl rfl ?_
  refine Lp (V_asg rfl rfl) rfl rfl ?_
  refine Lp (V_asg rfl rfl) rfl rfl ?_
  refine Lnil ?_
  refine thenN ?_
  refine AW.seq ?_
  refine AW.seq ?_
  refine AW.reg ?_
  refine Lp (V_move rfl rfl) rfl rfl ?_
  refine Lp (V_lss rfl rfl rfl) rfl rfl ?_
  refine Lp (V_move rfl rfl) rfl rfl ?_
  refine Lsplit 5 (decide (a1 < 0)) [(0, Sl.v a0), (1, .int .i64 a1), (18, .bool ((decide (a1 < 0)) || (decide ((a0.len : Int) < a1))))] ?_ ?_ ?_
  · intro e2 hk2
    refine Ln rfl rfl rfl rfl (.inl (by rw [e2]; rfl)) ?_
    refine Ln rfl rfl rfl rfl (.inl (by rw [e2]; rfl)) ?_
    refine Ln rfl rfl rfl rfl (.inl (by rw [e2]; rfl)) ?_
    refine Ln rfl rfl rfl rfl (.inl (by rw [e2]; rfl)) ?_
    refine Lp (V_pickT rfl (evb e2) rfl) rfl rfl ?_
    exact hk2 _ (FrLe.cons rfl (FrLe.cons rfl (FrLe.cons (by rw [e2]; rfl) (FrLe.nil _))))
  · intro e2 hk2
    refine Lypb (V_move rfl rfl) rfl rfl rfl rfl e2 ?_
    refine Lypb (V_move rfl rfl) rfl rfl rfl rfl e2 ?_
    refine Lypb (V_lenL rfl rfl Tryz.underlying24 rfl rfl) rfl rfl rfl rfl e2 ?_
    refine Lypb (V_gtr rfl rfl rfl) rfl rfl rfl rfl e2 ?_
    refine Lp (V_pickF rfl (evb e2) rfl) rfl rfl ?_
    exact hk2 _ (FrLe.cons rfl (FrLe.cons rfl (FrLe.cons (by rw [e2]; rfl) (FrLe.nil _))))
  intro fr hl
  refine Lfr hl ?_
  refine Lnil ?_
  refine thenN ?_
  refine AW.iff rfl (bor_iff decide_eq_true_iff decide_eq_true_iff) h (fun h => ?_) (fun h => ?_)
  · refine AW.seq ?_
    refine AW.reg ?_
    refine Lp (V_asg rfl rfl) rfl rfl ?_
    refine Lp (V_asg rfl rfl) rfl rfl ?_
    refine Lp (V_asg rfl rfl) rfl rfl ?_
    refine Lnil ?_
    refine thenN ?_
    refine AW.ret ?_
    refine thenR ?_
    exact bR3 Tryz.results120 rfl rfl rfl ⟨_, _, _, rfl, h⟩
  refine AW.skip ?_
  refine thenN ?_
  refine AW.seq ?_
  refine AW.reg ?_
  refine Lp (V_asg rfl rfl) rfl rfl ?_
  refine Lnil ?_
  refine thenN ?_
  refine AW.seqJ (fun fr σ => ∃ (x7_2 : Int), FrLe [(0, Sl.v a0), (1, .int .i64 a1), (7, .int .i64 x7_2)] fr ∧ j1_ref01_Number B ro a0 a1 Q x7_2 σ) ?_ ?_
  rotate_left
  · refine AW.seq ?_
    refine AW.reg ?_
    refine Lp (V_asg rfl rfl) rfl rfl ?_
    refine Lnil ?_
    refine thenN ?_
    refine AW.block ?_
    refine ARound.loop (fr' := [(0, Sl.v a0), (1, .int .i64 a1), (7, .int .i64 (-1)), (8, .int .i64 0)]) ?_ (FrLe.cons rfl (FrLe.cons rfl (FrLe.cons rfl (FrLe.cons rfl (FrLe.nil _)))))
    refine h (fun ⟨x7_23, x8_24⟩ σ => ARound _ _ _ _ _ _ [(0, Sl.v a0), (1, .int .i64 a1), (7, .int .i64 x7_23), (8, .int .i64 x8_24)] σ) ?_
    rintro ⟨x7_23, x8_24⟩ σ Y22 hY22 h
    show AW _ _ _ _ _ _ _ _
    unfold l22_ref01_Number at h
    dsimp only at h
    refine AW.seq ?_
    refine AW.seq ?_
    refine AW.reg ?_
    refine Lp (V_move rfl rfl) rfl rfl ?_
    refine Lp (V_lss rfl rfl rfl) rfl rfl ?_
    refine Lp (V_move rfl rfl) rfl rfl ?_
    refine Lsplit 7 (decide (x8_24 < 9)) [(0, Sl.v a0), (1, .int .i64 a1), (7, .int .i64 x7_23), (8, .int .i64 x8_24), (28, .bool ((decide (x8_24 < 9)) && (decide ((IntKind.i64.wrap (a1 + x8_24)) < (a0.len : Int)))))] ?_ ?_ ?_
    · intro e2 hk2
      refine Lypb (V_move rfl rfl) rfl rfl rfl rfl e2 ?_
      refine Lypb (V_move rfl rfl) rfl rfl rfl rfl e2 ?_
      refine Lypb (V_add rfl rfl rfl) rfl rfl rfl rfl e2 ?_
      refine Lypb (V_move rfl rfl) rfl rfl rfl rfl e2 ?_
      refine Lypb (V_lenL rfl rfl Tryz.underlying24 rfl rfl) rfl rfl rfl rfl e2 ?_
      refine Lypb (V_lss rfl rfl rfl) rfl rfl rfl rfl e2 ?_
      refine Lp (V_pickT rfl (evb e2) rfl) rfl rfl ?_
      exact hk2 _ (FrLe.cons rfl (FrLe.cons rfl (FrLe.cons rfl (FrLe.cons rfl (FrLe.cons (by rw [e2]; rfl) (FrLe.nil _))))))
    · intro e2 hk2
      refine Ln rfl rfl rfl rfl (.inl (by rw [e2]; rfl)) ?_
      refine Ln rfl rfl rfl rfl (.inl (by rw [e2]; rfl)) ?_
      refine Ln rfl rfl rfl rfl (.inl (by rw [e2]; rfl)) ?_
      refine Ln rfl rfl rfl rfl (.inl (by rw [e2]; rfl)) ?_
      refine Ln rfl rfl rfl rfl (.inl (by rw [e2]; rfl)) ?_
      refine Ln rfl rfl rfl rfl (.inl (by rw [e2]; rfl)) ?_
      refine Lp (V_pickF rfl (evb e2) rfl) rfl rfl ?_
      exact hk2 _ (FrLe.cons rfl (FrLe.cons rfl (FrLe.cons rfl (FrLe.cons rfl (FrLe.cons (by rw [e2]; rfl) (FrLe.nil _))))))
    intro fr hl
    refine Lfr hl ?_
    refine Lp (V_move rfl rfl) rfl rfl ?_
    refine Lsplit 3 ((decide (x8_24 < 9)) && (decide ((IntKind.i64.wrap (a1 + x8_24)) < (a0.len : Int)))) [(0, Sl.v a0), (1, .int .i64 a1), (7, .int .i64 x7_23), (8, .int .i64 x8_24), (32, .bool (((decide (x8_24 < 9)) && (decide ((IntKind.i64.wrap (a1 + x8_24)) < (a0.len : Int)))) && (decide (x7_23 < 0))))] ?_ ?_ ?_
    · intro e10 hk10
      refine Lypb (V_move rfl rfl) rfl rfl rfl rfl e10 ?_
      refine Lypb (V_lss rfl rfl rfl) rfl rfl rfl rfl e10 ?_
      refine Lp (V_pickT rfl (evb e10) rfl) rfl rfl ?_
      exact hk10 _ (FrLe.cons rfl (FrLe.cons rfl (FrLe.cons rfl (FrLe.cons rfl (FrLe.cons (by rw [e10]; rfl) (FrLe.nil _))))))
    · intro e10 hk10
      refine Ln rfl rfl rfl rfl (.inl (by rw [e10]; rfl)) ?_
      refine Ln rfl rfl rfl rfl (.inl (by rw [e10]; rfl)) ?_
      refine Lp (V_pickF rfl (evb e10) rfl) rfl rfl ?_
      exact hk10 _ (FrLe.cons rfl (FrLe.cons rfl (FrLe.cons rfl (FrLe.cons rfl (FrLe.cons (by rw [e10]; rfl) (FrLe.nil _))))))
    intro fr hl
    refine Lfr hl ?_
    refine Lnil ?_
    refine thenN ?_
    refine AW.iff rfl (band_iff (band_iff decide_eq_true_iff decide_eq_true_iff) decide_eq_true_iff) h (fun h => ?_) (fun h => ?_)
    rotate_left
    · refine AW.exit ?_
      refine thenE ?_
      refine thenE ?_
      refine blockE ?_
      refine thenN ?_
      exact ⟨_, (FrLe.cons rfl (FrLe.cons rfl (FrLe.cons rfl (FrLe.nil _)))), h⟩
    refine AW.skip ?_
    refine thenN ?_
    refine AW.seqJ (fun fr σ => ∃ (x7_26 : Int), FrLe [(0, Sl.v a0), (1, .int .i64 a1), (8, .int .i64 x8_24), (7, .int .i64 x7_26)] fr ∧ j25_ref01_Number B ro a0 a1 x8_24 Q Y22 x7_26 σ) ?_ ?_
    · rintro fr σ ⟨x7_26, hl, h⟩
      refine AW.weaken ?_ hl (HLe.refl _)
      unfold j25_ref01_Number at h
      refine AW.reg ?_
      refine Lp (V_move rfl rfl) rfl rfl ?_
      refine Lp (V_add rfl rfl rfl) rfl rfl ?_
      refine Lp (V_asg rfl rfl) rfl rfl ?_
      refine Lnil ?_
      refine thenN ?_
      refine ARound.head (fr' := [(0, Sl.v a0), (1, .int .i64 a1), (7, .int .i64 x7_26), (8, .int .i64 (IntKind.i64.wrap (x8_24 + 1)))]) ?_ (FrLe.cons rfl (FrLe.cons rfl (FrLe.cons rfl (FrLe.cons rfl (FrLe.nil _)))))
      exact hY22 _ _ h
    refine AW.block ?_
    refine AW.seq ?_
    refine AW.reg ?_
    refine Lp (V_move rfl rfl) rfl rfl ?_
    refine Lp (V_move rfl rfl) rfl rfl ?_
    refine Lp (V_move rfl rfl) rfl rfl ?_
    refine Lp (V_add rfl rfl rfl) rfl rfl ?_
    obtain ⟨p39_27, ha, h0, h1, h⟩ := h
    refine Lp (V_ixA rfl Tryz.underlying24 ty5 (ixL rfl ha) rfl h0 h1) rfl rfl ?_
    obtain ⟨x40_28, hc, h⟩ := h
    refine Ls rfl rfl (X_ld rfl Tryz.underlying5 rfl rfl hc ?_)
    refine Lp (V_lss rfl rfl rfl) rfl rfl ?_
    refine Lnil ?_
    refine thenN ?_
    refine AW.iff rfl decide_eq_true_iff h (fun h => ?_) (fun h => ?_)
    rotate_left
    · refine AW.skip ?_
      refine blockN ?_
      refine thenN ?_
      exact ⟨_, (FrLe.cons rfl (FrLe.cons rfl (FrLe.cons rfl (FrLe.cons rfl (FrLe.nil _))))), h⟩
    refine AW.reg ?_
    refine Lp (V_move rfl rfl) rfl rfl ?_
    refine Lp (V_asg rfl rfl) rfl rfl ?_
    refine Lnil ?_
    refine blockN ?_
    refine thenN ?_
    exact ⟨_, (FrLe.cons rfl (FrLe.cons rfl (FrLe.cons rfl (FrLe.cons rfl (FrLe.nil _))))), h⟩
  rintro fr σ ⟨x7_2, hl, h⟩
  refine AW.weaken ?_ hl (HLe.refl _)
  unfold j1_ref01_Number at h
  refine AW.seq ?_
  refine AW.seq ?_
  refine AW.reg ?_
  refine Lp (V_move rfl rfl) rfl rfl ?_
  refine Lp (V_lss rfl rfl rfl) rfl rfl ?_
  refine Lp (V_move rfl rfl) rfl rfl ?_
  refine Lsplit 6 (decide (x7_2 < 0)) [(0, Sl.v a0), (1, .int .i64 a1), (7, .int .i64 x7_2), (51, .bool ((decide (x7_2 < 0)) && (decide ((IntKind.i64.wrap ((a0.len : Int) - a1)) < 9))))] ?_ ?_ ?_
  · intro e2 hk2
    refine Lypb (V_move rfl rfl) rfl rfl rfl rfl e2 ?_
    refine Lypb (V_lenL rfl rfl Tryz.underlying24 rfl rfl) rfl rfl rfl rfl e2 ?_
    refine Lypb (V_move rfl rfl) rfl rfl rfl rfl e2 ?_
    refine Lypb (V_sub rfl rfl rfl) rfl rfl rfl rfl e2 ?_
    refine Lypb (V_lss rfl rfl rfl) rfl rfl rfl rfl e2 ?_
    refine Lp (V_pickT rfl (evb e2) rfl) rfl rfl ?_
    exact hk2 _ (FrLe.cons rfl (FrLe.cons rfl (FrLe.cons rfl (FrLe.cons (by rw [e2]; rfl) (FrLe.nil _)))))
  · intro e2 hk2
    refine Ln rfl rfl rfl rfl (.inl (by rw [e2]; rfl)) ?_
    refine Ln rfl rfl rfl rfl (.inl (by rw [e2]; rfl)) ?_
    refine Ln rfl rfl rfl rfl (.inl (by rw [e2]; rfl)) ?_
    refine Ln rfl rfl rfl rfl (.inl (by rw [e2]; rfl)) ?_
    refine Ln rfl rfl rfl rfl (.inl (by rw [e2]; rfl)) ?_
    refine Lp (V_pickF rfl (evb e2) rfl) rfl rfl ?_
    exact hk2 _ (FrLe.cons rfl (FrLe.cons rfl (FrLe.cons rfl (FrLe.cons (by rw [e2]; rfl) (FrLe.nil _)))))
  intro fr hl
  refine Lfr hl ?_
  refine Lnil ?_
  refine thenN ?_
  refine AW.iff rfl (band_iff decide_eq_true_iff decide_eq_true_iff) h (fun h => ?_) (fun h => ?_)
  · refine AW.seq ?_
    refine AW.reg ?_
    refine Lp (V_asg rfl rfl) rfl rfl ?_
    refine Lp (V_asg rfl rfl) rfl rfl ?_
    refine Lp (V_asg rfl rfl) rfl rfl ?_
    refine Lnil ?_
    refine thenN ?_
    refine AW.ret ?_
    refine thenR ?_
    exact bR3 Tryz.results120 rfl rfl rfl ⟨_, _, _, rfl, h⟩
  refine AW.skip ?_
  refine thenN ?_
  refine AW.seq ?_
  refine AW.seq ?_
  refine AW.reg ?_
  refine Lp (V_move rfl rfl) rfl rfl ?_
  refine Lp (V_lss rfl rfl rfl) rfl rfl ?_
  refine Lp (V_move rfl rfl) rfl rfl ?_
  refine LsplitJ 12 (decide (x7_2 < 0)) decide_eq_true_iff h (fun fr σ => ∃ (x66_4 : Bool), FrLe [(0, Sl.v a0), (1, .int .i64 a1), (7, .int .i64 x7_2), (66, .bool x66_4)] fr ∧ j3_ref01_Number B ro a0 a1 x7_2 Q x66_4 σ) ?_ ?_ ?_
  · intro h e2 hk2
    refine Ln rfl rfl rfl rfl (.inl (by rw [e2]; rfl)) ?_
    refine Ln rfl rfl rfl rfl (.inl (by rw [e2]; rfl)) ?_
    refine Ln rfl rfl rfl rfl (.inl (by rw [e2]; rfl)) ?_
    refine Ln rfl rfl rfl rfl (.inr rfl) ?_
    refine Ln rfl rfl rfl rfl (.inr rfl) ?_
    refine Ln rfl rfl rfl rfl (.inr rfl) ?_
    refine Ln rfl rfl rfl rfl (.inr rfl) ?_
    refine Ln rfl rfl rfl rfl (.inr rfl) ?_
    refine Ln rfl rfl rfl rfl (.inr rfl) ?_
    refine Ln rfl rfl rfl rfl (.inr rfl) ?_
    refine Ln rfl rfl rfl rfl (.inl (by rw [e2]; rfl)) ?_
    refine Lp (V_pickT rfl (evb e2) rfl) rfl rfl ?_
    exact hk2 _ _ ⟨_, (FrLe.cons rfl (FrLe.cons rfl (FrLe.cons rfl (FrLe.cons rfl (FrLe.nil _))))), h⟩
  · intro h e2 hk2
    refine Lypb (V_move rfl rfl) rfl rfl rfl rfl e2 ?_
    refine Lypb (V_gtr rfl rfl rfl) rfl rfl rfl rfl e2 ?_
    refine Lypb (V_move rfl rfl) rfl rfl rfl rfl e2 ?_
    refine LsplitJ 8 (decide (0 < x7_2)) decide_eq_true_iff h (fun fr σ => ∃ (x65_19 : Bool), FrLe [(0, Sl.v a0), (1, .int .i64 a1), (7, .int .i64 x7_2), (54, .bool (decide (x7_2 < 0))), (65, .bool x65_19)] fr ∧ j18_ref01_Number B ro a0 a1 x7_2 Q x65_19 σ) ?_ ?_ ?_
    · intro h e5 hk5
      refine Lypb (V_move rfl rfl) rfl rfl rfl rfl e5 ?_
      refine Lypb (V_move rfl rfl) rfl rfl rfl rfl e5 ?_
      refine Lypb (V_move rfl rfl) rfl rfl rfl rfl e5 ?_
      refine Lypb (V_add rfl rfl rfl) rfl rfl rfl rfl e5 ?_
      obtain ⟨p62_20, ha, h0, h1, h⟩ := h
      refine Lypb (V_ixA rfl Tryz.underlying24 ty5 (ixL rfl ha) rfl h0 h1) rfl rfl rfl rfl e5 ?_
      obtain ⟨x63_21, hc, h⟩ := h
      refine Lyb rfl rfl rfl rfl e5 (X_ld rfl Tryz.underlying5 rfl rfl hc ?_)
      refine Lypb (V_eql rfl rfl rfl) rfl rfl rfl rfl e5 ?_
      refine Lypb (V_pickT rfl (evb e5) rfl) rfl rfl rfl rfl e2 ?_
      exact hk5 _ _ ⟨_, (FrLe.cons rfl (FrLe.cons rfl (FrLe.cons rfl (FrLe.cons rfl (FrLe.cons rfl (FrLe.nil _)))))), h⟩
    · intro h e5 hk5
      refine Ln rfl rfl rfl rfl (.inl (by rw [e5]; rfl)) ?_
      refine Ln rfl rfl rfl rfl (.inl (by rw [e5]; rfl)) ?_
      refine Ln rfl rfl rfl rfl (.inl (by rw [e5]; rfl)) ?_
      refine Ln rfl rfl rfl rfl (.inl (by rw [e5]; rfl)) ?_
      refine Ln rfl rfl rfl rfl (.inl (by rw [e5]; rfl)) ?_
      refine Ln rfl rfl rfl rfl (.inl (by rw [e5]; rfl)) ?_
      refine Ln rfl rfl rfl rfl (.inl (by rw [e5]; rfl)) ?_
      refine Lypb (V_pickF rfl (evb e5) rfl) rfl rfl rfl rfl e2 ?_
      exact hk5 _ _ ⟨_, (FrLe.cons rfl (FrLe.cons rfl (FrLe.cons rfl (FrLe.cons rfl (FrLe.cons rfl (FrLe.nil _)))))), h⟩
    rintro fr σ ⟨x65_19, hl, h⟩
    unfold j18_ref01_Number at h
    refine Lfr hl ?_
    refine Lp (V_pickF rfl (evb e2) rfl) rfl rfl ?_
    exact hk2 _ _ ⟨_, (FrLe.cons rfl (FrLe.cons rfl (FrLe.cons rfl (FrLe.cons rfl (FrLe.nil _))))), h⟩
  rintro fr σ ⟨x66_4, hl, h⟩
  unfold j3_ref01_Number at h
  refine Lfr hl ?_
  refine Lp (V_move rfl rfl) rfl rfl ?_
  refine LsplitJ 11 x66_4 Iff.rfl h (fun fr σ => ∃ (x78_6 : Bool), FrLe [(0, Sl.v a0), (1, .int .i64 a1), (7, .int .i64 x7_2), (78, .bool x78_6)] fr ∧ j5_ref01_Number B ro a0 a1 x7_2 Q x78_6 σ) ?_ ?_ ?_
  · intro h e15 hk15
    refine Ln rfl rfl rfl rfl (.inl (by rw [e15]; rfl)) ?_
    refine Ln rfl rfl rfl rfl (.inl (by rw [e15]; rfl)) ?_
    refine Ln rfl rfl rfl rfl (.inl (by rw [e15]; rfl)) ?_
    refine Ln rfl rfl rfl rfl (.inr rfl) ?_
    refine Ln rfl rfl rfl rfl (.inr rfl) ?_
    refine Ln rfl rfl rfl rfl (.inr rfl) ?_
    refine Ln rfl rfl rfl rfl (.inr rfl) ?_
    refine Ln rfl rfl rfl rfl (.inr rfl) ?_
    refine Ln rfl rfl rfl rfl (.inr rfl) ?_
    refine Ln rfl rfl rfl rfl (.inl (by rw [e15]; rfl)) ?_
    refine Lp (V_pickT rfl (evb e15) rfl) rfl rfl ?_
    exact hk15 _ _ ⟨_, (FrLe.cons rfl (FrLe.cons rfl (FrLe.cons rfl (FrLe.cons rfl (FrLe.nil _))))), h⟩
  · intro h e15 hk15
    refine Lypb (V_move rfl rfl) rfl rfl rfl rfl e15 ?_
    refine Lypb (V_eql rfl rfl rfl) rfl rfl rfl rfl e15 ?_
    refine Lypb (V_move rfl rfl) rfl rfl rfl rfl e15 ?_
    refine LsplitJ 7 (decide (x7_2 = 8)) decide_eq_true_iff h (fun fr σ => ∃ (x77_15 : Bool), FrLe [(0, Sl.v a0), (1, .int .i64 a1), (7, .int .i64 x7_2), (67, .bool x66_4), (77, .bool x77_15)] fr ∧ j14_ref01_Number B ro a0 a1 x7_2 x66_4 Q x77_15 σ) ?_ ?_ ?_
    · intro h e18 hk18
      refine Lypb (V_move rfl rfl) rfl rfl rfl rfl e18 ?_
      refine Lypb (V_move rfl rfl) rfl rfl rfl rfl e18 ?_
      refine Lypb (V_add rfl rfl rfl) rfl rfl rfl rfl e18 ?_
      obtain ⟨p74_16, ha, h0, h1, h⟩ := h
      refine Lypb (V_ixA rfl Tryz.underlying24 ty5 (ixL rfl ha) rfl h0 h1) rfl rfl rfl rfl e18 ?_
      obtain ⟨x75_17, hc, h⟩ := h
      refine Lyb rfl rfl rfl rfl e18 (X_ld rfl Tryz.underlying5 rfl rfl hc ?_)
      refine Lypb (V_gtr rfl rfl rfl) rfl rfl rfl rfl e18 ?_
      refine Lypb (V_pickT rfl (evb e18) rfl) rfl rfl rfl rfl e15 ?_
      exact hk18 _ _ ⟨_, (FrLe.cons rfl (FrLe.cons rfl (FrLe.cons rfl (FrLe.cons rfl (FrLe.cons rfl (FrLe.nil _)))))), h⟩
    · intro h e18 hk18
      refine Ln rfl rfl rfl rfl (.inl (by rw [e18]; rfl)) ?_
      refine Ln rfl rfl rfl rfl (.inl (by rw [e18]; rfl)) ?_
      refine Ln rfl rfl rfl rfl (.inl (by rw [e18]; rfl)) ?_
      refine Ln rfl rfl rfl rfl (.inl (by rw [e18]; rfl)) ?_
      refine Ln rfl rfl rfl rfl (.inl (by rw [e18]; rfl)) ?_
      refine Ln rfl rfl rfl rfl (.inl (by rw [e18]; rfl)) ?_
      refine Lypb (V_pickF rfl (evb e18) rfl) rfl rfl rfl rfl e15 ?_
      exact hk18 _ _ ⟨_, (FrLe.cons rfl (FrLe.cons rfl (FrLe.cons rfl (FrLe.cons rfl (FrLe.cons rfl (FrLe.nil _)))))), h⟩
    rintro fr σ ⟨x77_15, hl, h⟩
    unfold j14_ref01_Number at h
    refine Lfr hl ?_
    refine Lp (V_pickF rfl (evb e15) rfl) rfl rfl ?_
    exact hk15 _ _ ⟨_, (FrLe.cons rfl (FrLe.cons rfl (FrLe.cons rfl (FrLe.cons rfl (FrLe.nil _))))), h⟩
  rintro fr σ ⟨x78_6, hl, h⟩
  unfold j5_ref01_Number at h
  refine Lfr hl ?_
  refine Lnil ?_
  refine thenN ?_
  refine AW.iff rfl Iff.rfl h (fun h => ?_) (fun h => ?_)
  · refine AW.seq ?_
    refine AW.reg ?_
    refine Lp (V_asg rfl rfl) rfl rfl ?_
    refine Lp (V_asg rfl rfl) rfl rfl ?_
    refine Lp (V_asg rfl rfl) rfl rfl ?_
    refine Lnil ?_
    refine thenN ?_
    refine AW.ret ?_
    refine thenR ?_
    exact bR3 Tryz.results120 rfl rfl rfl ⟨_, _, _, rfl, h⟩
  refine AW.skip ?_
  refine thenN ?_
  refine AW.seq ?_
  refine AW.reg ?_
  refine Lp (V_asg rfl rfl) rfl rfl ?_
  refine Lnil ?_
  refine thenN ?_
  refine AW.seqJ (fun fr σ => ∃ (x9_8 : Int), FrLe [(1, .int .i64 a1), (7, .int .i64 x7_2), (9, .int .i64 x9_8)] fr ∧ j7_ref01_Number B ro a1 x7_2 Q x9_8 σ) ?_ ?_
  · rintro fr σ ⟨x9_8, hl, h⟩
    refine AW.weaken ?_ hl (HLe.refl _)
    unfold j7_ref01_Number at h
    refine AW.seq ?_
    refine AW.reg ?_
    refine Lp (V_move rfl rfl) rfl rfl ?_
    refine Lp (V_move rfl rfl) rfl rfl ?_
    refine Lp (V_move rfl rfl) rfl rfl ?_
    refine Lp (V_add rfl rfl rfl) rfl rfl ?_
    refine Lp (V_add rfl rfl rfl) rfl rfl ?_
    refine Lp (V_asg rfl rfl) rfl rfl ?_
    refine Lp (V_asg rfl rfl) rfl rfl ?_
    refine Lp (V_asg rfl rfl) rfl rfl ?_
    refine Lnil ?_
    refine thenN ?_
    refine AW.ret ?_
    exact bR3 Tryz.results120 rfl rfl rfl ⟨_, _, _, rfl, h⟩
  refine AW.seq ?_
  refine AW.reg ?_
  refine Lp (V_move rfl rfl) rfl rfl ?_
  refine Lp (V_asg rfl rfl) rfl rfl ?_
  refine Lnil ?_
  refine thenN ?_
  refine AW.block ?_
  refine ARound.loop (fr' := [(0, Sl.v a0), (1, .int .i64 a1), (7, .int .i64 x7_2), (9, .int .i64 0), (10, .int .i64 x7_2)]) ?_ (FrLe.cons rfl (FrLe.cons rfl (FrLe.cons rfl (FrLe.cons rfl (FrLe.cons rfl (FrLe.nil _))))))
  refine h (fun ⟨x9_10, x10_11⟩ σ => ARound _ _ _ _ _ _ [(0, Sl.v a0), (1, .int .i64 a1), (7, .int .i64 x7_2), (9, .int .i64 x9_10), (10, .int .i64 x10_11)] σ) ?_
  rintro ⟨x9_10, x10_11⟩ σ Y9 hY9 h
  show AW _ _ _ _ _ _ _ _
  unfold l9_ref01_Number at h
  dsimp only at h
  refine AW.seq ?_
  refine AW.seq ?_
  refine AW.reg ?_
  refine Lp (V_move rfl rfl) rfl rfl ?_
  refine Lp (V_geq rfl rfl rfl) rfl rfl ?_
  refine Lnil ?_
  refine thenN ?_
  refine AW.iff rfl decide_eq_true_iff h (fun h => ?_) (fun h => ?_)
  rotate_left
  · refine AW.exit ?_
    refine thenE ?_
    refine thenE ?_
    refine blockE ?_
    refine thenN ?_
    exact ⟨_, (FrLe.cons rfl (FrLe.cons rfl (FrLe.cons rfl (FrLe.nil _)))), h⟩
  refine AW.skip ?_
  refine thenN ?_
  refine AW.seq ?_
  refine AW.block ?_
  refine AW.reg ?_
  refine Lp (V_move rfl rfl) rfl rfl ?_
  refine Lp (V_mul rfl rfl rfl) rfl rfl ?_
  refine Lp (V_move rfl rfl) rfl rfl ?_
  refine Lp (V_move rfl rfl) rfl rfl ?_
  refine Lp (V_move rfl rfl) rfl rfl ?_
  refine Lp (V_add rfl rfl rfl) rfl rfl ?_
  obtain ⟨p90_12, ha, h0, h1, h⟩ := h
  refine Lp (V_ixA rfl Tryz.underlying24 ty5 (ixL rfl ha) rfl h0 h1) rfl rfl ?_
  obtain ⟨x91_13, hc, h⟩ := h
  refine Ls rfl rfl (X_ld rfl Tryz.underlying5 rfl rfl hc ?_)
  refine Lp (V_cvt rfl rfl Tryz.underlying5 Tryz.underlying3) rfl rfl ?_
  refine Lp (V_rem rfl rfl rfl (by decide)) rfl rfl ?_
  refine Lp (V_add rfl rfl rfl) rfl rfl ?_
  refine Lp (V_asg rfl rfl) rfl rfl ?_
  refine Lnil ?_
  refine blockN ?_
  refine thenN ?_
  refine AW.reg ?_
  refine Lp (V_move rfl rfl) rfl rfl ?_
  refine Lp (V_sub rfl rfl rfl) rfl rfl ?_
  refine Lp (V_asg rfl rfl) rfl rfl ?_
  refine Lnil ?_
  refine thenN ?_
  refine ARound.head (fr' := [(0, Sl.v a0), (1, .int .i64 a1), (7, .int .i64 x7_2), (9, .int .i64 (IntKind.i64.wrap ((IntKind.i64.wrap (x9_10 * 128)) + (Int.tmod (IntKind.i64.wrap x91_13) 128)))), (10, .int .i64 (IntKind.i64.wrap (x10_11 - 1)))]) ?_ (FrLe.cons rfl (FrLe.cons rfl (FrLe.cons rfl (FrLe.cons rfl (FrLe.cons rfl (FrLe.nil _))))))
  exact hY9 _ _ h

end Go.Proofs.YtomdigihapdhnaaGreatDoor.G

/- The laws of the tree, the walk: a tree behind a script. -/
namespace Go.Proofs.YtomdigihapdhnaaGreatDoor.Zt
open Go Go.Proofs.YtomdigihapdhnaaGreatDoor.SL Go.Proofs.YtomdigihapdhnaaGreatDoor.G Go.Proofs.YtomdigihapdhnaaGreatDoor.Pa
set_option linter.unusedSimpArgs false
set_option linter.unusedVariables false
variable {B : World} {ro σ σ' : AH} {tag tag' : Nat → Nat}

theorem TreeIs.del {r T b : Nat} {st : St} (h : TreeIs tag σ r T st) (hr : r < 64) (hr0 : r ≠ 0) (hb : tag b = 0) : TreeIs tag (SL.del σ b) r T st := by
  obtain ⟨M, bs, h⟩ := h
  refine ⟨M, bs, h.keys, h.len, h.nd, h.cell.del hb hr0, h.map.del (by rw [hb]; omega), fun i c p hc hp => ?_⟩
  obtain ⟨s, h1, h2⟩ := h.nodes i c p hc hp
  exact ⟨s, h1.del hb (by omega), h2.del hb (by omega)⟩
theorem TreeIs.back {r T b r' : Nat} {st : St} {τ : AH} (h : TreeIs tag' τ r T st) (hd : Disj (SL.one σ b) τ) (hb : ∃ o, σ b = some o) : TreeIs (setTag tag' b r') (join (SL.one σ b) τ) r T st := by
  obtain ⟨M, bs, h⟩ := h
  refine ⟨M, bs, h.keys, h.len, h.nd, h.cell.back hd hb, h.map.back hd hb, fun i c p hc hp => ?_⟩
  obtain ⟨s, h1, h2⟩ := h.nodes i c p hc hp
  exact ⟨s, h1.back hd hb, h2.back hd hb⟩

set_option maxRecDepth 100000 in
theorem copy_ok {s : Sl} {l : List Value} {Q : Sl → AH → Prop} (h : SL.Read ro σ s l) (hs : SL.Sep ro σ) (hl : l.length ≤ 140737488355328) (hv : ∀ v ∈ l, storable v = true) (hQ : ∀ s' tag' σ', (∀ R, Step R ro tag σ tag' σ') → Row tag' σ' 6 5 s' l → Q s' σ') : c_ref01_Copy B ro s σ Q := by
  refine ref01_Copy_ok fun _ => ?_
  unfold f_ref01_Copy
  refine nw_cells (tag := tag) 0 hs fun b tag1 σ1 st1 r1 => ?_
  refine ref01_Join_ok fun _ => ?_
  unfold f_ref01_Join
  refine nw_cells (tag := tag1) 6 (st1 []).sep fun c tag2 σ2 st2 r2 => ?_
  have r1' := r1.keep (st2 []) (by simp)
  have h2 : SL.Read ro σ2 s l := (h.step (st1 [])).step (st2 [])
  refine lfpD.intro ?_
  unfold l4_ref01_Join
  simp only
  rw [if_pos (by decide)]
  obtain ⟨p, hp, hg⟩ := r1'.ptr (st2 []).sep (by simp)
  cases hp
  refine ⟨_, rfl, by decide, by decide, s, hg 0 _ rfl, ?_⟩
  refine awp_appendN r2 (st2 []).sep h2 u30 ty5 rfl hv (by simp; omega) (by decide) fun s' tag3 σ3 st3 r3 => ?_
  refine ⟨s', rfl, ?_⟩
  rw [show IntKind.i64.wrap (0 + 1) = 1 from by decide]
  refine lfpD.intro ?_
  show (if (1 : Int) < ((1 : Nat) : Int) then _ else _)
  rw [if_neg (by decide)]
  unfold j2_ref01_Join
  exact hQ s' tag3 σ3 (fun R => (st1 R).trans ((st2 R).trans (st3 R (.inl rfl)))) r3

structure OpV where
  kind : Int
  n : Int
  path : Str
  data : Str
  seq : Bool
def Ops (ro : AH) (s : Sl) (os : List OpV) : Prop := s.len = os.length ∧ ∀ j o, os[j]? = some o → ∃ q ds, s.a = some q ∧ (∀ σ, cellsAt ro σ (q.add (j * 5)) 0 [vI o.kind, vI o.n, .string (S o.path), Sl.v ds, .bool o.seq]) ∧ SL.Read ro (fun _ => none) ds (o.data.map vU)

end Go.Proofs.YtomdigihapdhnaaGreatDoor.Zt

/- What a call does to a tree, in one of two ways; what holds of all trees behind scripts. -/
namespace Go.Proofs.YtomdigihapdhnaaGreatDoor.Zt
open Go Go.Proofs.YtomdigihapdhnaaGreatDoor.SL Go.Proofs.YtomdigihapdhnaaGreatDoor.Pa Go.Proofs.YtomdigihapdhnaaGreatDoor.Wi
set_option linter.unusedSimpArgs false
set_option linter.unusedVariables false

/-- what holds of a tree behind at most b calls -/
structure InvB (b : Nat) (st : St) : Prop where
  inv : Inv st
  ver : ∀ k n, st.lookup k = some n → 0 ≤ n.ver ∧ n.ver ≤ b
  own : ∀ k n, st.lookup k = some n → 0 ≤ n.own ∧ n.own ≤ 4611686018427387903 ∧ (n.own ≠ 0 → n.ctr = 0)
  rt : ∀ n, st.lookup [47] = some n → n.data = [] ∧ n.ver = 0 ∧ n.own = 0
  len : st.length ≤ b + 1
theorem InvB.mono {b c : Nat} {st : St} (h : InvB b st) (hc : b ≤ c) : InvB c st :=
  ⟨h.inv, fun k n hk => by have := h.ver k n hk; omega, h.own, h.rt, by have := h.len; omega⟩
/-- a path is at most 128 letters, a node's bytes at most 256 -/
theorem Inv.small {st : St} (h : Inv st) : ∀ p ∈ st, p.1.length ≤ 128 ∧ p.2.data.length ≤ 256 := fun p hp => by
  have hl := (lookup_iff h.keys (k := p.1) (n := p.2)).2 hp
  obtain ⟨ps, hps⟩ := h.path _ _ hl
  obtain ⟨e, hg⟩ := parts_iff.1 hps
  exact ⟨by rw [e]; exact hg.len, h.data _ _ hl⟩

/-! what a call that is not refused changes -/
end Go.Proofs.YtomdigihapdhnaaGreatDoor.Zt
