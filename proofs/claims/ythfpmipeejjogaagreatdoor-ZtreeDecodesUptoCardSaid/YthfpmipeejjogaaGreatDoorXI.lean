/- WiB, WiC, ZtE, ZtF, GR1, EnC -/
import Derived.Test.YthfpmipeejjogaaGreatDoorXH
/- The wire, the walk: a writer. -/
namespace Go.Proofs.YthfpmipeejjogaaGreatDoor.Wi
open Go Go.Proofs.YthfpmipeejjogaaGreatDoor.SL Go.Proofs.YthfpmipeejjogaaGreatDoor.G Go.Proofs.YthfpmipeejjogaaGreatDoor.Zt
set_option linter.unusedSimpArgs false
set_option linter.unusedVariables false
variable {B : World} {ro σ σ' : AH} {tag tag' : Nat → Nat}

theorem u8or (n : Nat) : bitOr .u8 (IntKind.u8.wrap (n : Int)) 128 = ((n % 128 + 128 : Nat) : Int) := by
  have h : ∀ c : Fin 256, bitOr .u8 ((c.val : Nat) : Int) 128 = ((c.val % 128 + 128 : Nat) : Int) := by decide +kernel
  have e : IntKind.u8.wrap (n : Int) = ((n % 256 : Nat) : Int) := by
    simp [IntKind.wrap, IntKind.bits, IntKind.signed]
  rw [e, h ⟨n % 256, Nat.mod_lt _ (by decide)⟩]
  simp only
  omega
theorem u8wrap {n : Nat} (h : n < 256) : IntKind.u8.wrap (n : Int) = (n : Int) := by
  simp [IntKind.wrap, IntKind.bits, IntKind.signed]; omega
theorem vU_of {n : Nat} (h : n < 256) : vU (UInt8.ofNat n) = .int .u8 (n : Int) := by
  unfold vU; rw [u8_of n h]
theorem right_ok {n : Int} {Q : Bool → AH → Prop} (hQ : Q (rightN n) σ) : c_wire_right B ro n σ Q := by
  refine wire_right_ok fun _ => ?_
  unfold f_wire_right
  exact hQ
set_option maxRecDepth 100000 in
theorem put_ok {n : Nat} {Q : Sl → AH → Prop} (hs : SL.Sep ro σ) (hn : n < 4611686018427387904) (hQ : ∀ s tag' σ', Step [1] ro tag σ tag' σ' → Row tag' σ' 1 5 s ((vput n).map vU) → Q s σ') : c_wire_put B ro ⟨none, 0, 0⟩ (n : Int) σ Q := by
  refine wire_put_ok fun _ => ?_
  unfold f_wire_put
  suffices ∀ (m k : Nat) (acc : Str) (s : Sl) (tag1 : Nat → Nat) (σ1 : AH), k < 128 ^ (m + 1) → acc.length + m < 20 → acc ++ vput k = vput n → Step [1] ro tag σ tag1 σ1 → Row tag1 σ1 1 5 s (acc.map vU) → lfpD (l6_wire_put B ro Q) (s, (k : Int)) σ1 from
    this 8 n [] ⟨none, 0, 0⟩ tag σ (by omega) (by decide) rfl (Step.refl hs) (Row.nil 1 5)
  intro m
  induction m with
  | zero =>
    intro k acc s tag1 σ1 hk ha he st r1
    have hk : k < 128 := by simpa using hk
    refine lfpD.intro ?_
    unfold l6_wire_put
    simp only
    rw [if_neg (by omega)]
    unfold j1_wire_put
    refine nw_cells (tag := tag1) 0 st.sep fun x tag2 σ2 st2 r2 => ?_
    rw [u8wrap (by omega)] at r2
    refine awp_appendN (l2 := [vU (UInt8.ofNat k)]) (r1.keep (st2 []) (by simp)) (st2 []).sep (by rw [vU_of (by omega)]; exact r2.read (st2 []).sep) u30 ty5 rfl (by simp [storable]) (by simp; omega) (by decide) fun s' tag3 σ3 st3 r3 => ?_
    refine ⟨s', rfl, hQ s' tag3 σ3 (st.trans ((st2 _).trans (st3 _ (.inr (by simp))))) ?_⟩
    rw [← he]
    rw [vput, if_pos hk, List.map_append]
    exact r3
  | succ m ih =>
    intro k acc s tag1 σ1 hk ha he st r1
    refine lfpD.intro ?_
    unfold l6_wire_put
    simp only
    by_cases h128 : 128 ≤ k
    · rw [if_pos (by omega)]
      refine nw_cells (tag := tag1) 0 st.sep fun x tag2 σ2 st2 r2 => ?_
      rw [u8or] at r2
      refine awp_appendN (l2 := [vU (UInt8.ofNat (k % 128 + 128))]) (r1.keep (st2 []) (by simp)) (st2 []).sep (by rw [vU_of (by omega)]; exact r2.read (st2 []).sep) u30 ty5 rfl (by simp [storable]) (by simp; omega) (by decide) fun s' tag3 σ3 st3 r3 => ?_
      refine ⟨s', rfl, ?_⟩
      rw [show Int.fdiv (k : Int) (2 ^ (min (Int.toNat 7) 64)) = ((k / 128 : Nat) : Int) by
        rw [show (2 : Int) ^ (min (Int.toNat 7) 64) = 128 from by decide, Int.fdiv_eq_ediv_of_nonneg _ (by decide)]; omega]
      refine ih (k / 128) (acc ++ [UInt8.ofNat (k % 128 + 128)]) s' tag3 σ3 (by rw [Nat.pow_succ] at hk; exact Nat.div_lt_of_lt_mul (by rw [Nat.mul_comm]; exact hk)) (by simp; omega) ?_ (st.trans ((st2 _).trans (st3 _ (.inr (by simp))))) (by rw [List.map_append]; exact r3)
      rw [← he, List.append_assoc]
      conv => rhs; rw [vput, if_neg (by omega)]
      rfl
    · rw [if_neg (by omega)]
      unfold j1_wire_put
      refine nw_cells (tag := tag1) 0 st.sep fun x tag2 σ2 st2 r2 => ?_
      rw [u8wrap (by omega)] at r2
      refine awp_appendN (l2 := [vU (UInt8.ofNat k)]) (r1.keep (st2 []) (by simp)) (st2 []).sep (by rw [vU_of (by omega)]; exact r2.read (st2 []).sep) u30 ty5 rfl (by simp [storable]) (by simp; omega) (by decide) fun s' tag3 σ3 st3 r3 => ?_
      refine ⟨s', rfl, hQ s' tag3 σ3 (st.trans ((st2 _).trans (st3 _ (.inr (by simp))))) ?_⟩
      rw [← he]
      rw [vput, if_pos (by omega), List.map_append]
      exact r3

/-- what a number does to what was written -/
def wnum (a : Str × Bool) (n : Int) : Str × Bool := if rightN n then (a.1 ++ vput n.toNat, a.2) else (a.1, true)
theorem wnum_len (a : Str × Bool) (n : Int) : (wnum a n).1.length ≤ a.1.length + 9 := by
  unfold wnum
  split
  · rename_i h
    unfold rightN at h
    simp only [Bool.and_eq_true, decide_eq_true_eq] at h
    have := (vput_len 8 n.toNat (by omega)).2
    simp; omega
  · simp
set_option maxRecDepth 100000 in
theorem num_ok {r W : Nat} {a : Str × Bool} {n : Int} {Q : AH → Prop} (h : BufAt tag σ r W a.1 a.2) (hr : r ≠ 1) (hs : SL.Sep ro σ) (hl : a.1.length + 9 ≤ 140737488355328)
    (hQ : ∀ tag' σ', Step [r, r + 64, 1] ro tag σ tag' σ' → BufAt tag' σ' r W (wnum a n).1 (wnum a n).2 → Q σ') : c_wire_buffer_num B ro (some ⟨W, 0, none⟩) n σ Q := by
  refine wire_buffer_num_ok fun _ => ?_
  unfold f_wire_buffer_num
  refine right_ok ?_
  unfold wnum at hQ
  by_cases hn : rightN n = true
  · rw [if_neg (by simp [hn])]
    simp only [hn, if_true] at hQ
    have hn' := hn
    unfold rightN at hn'
    simp only [Bool.and_eq_true, decide_eq_true_eq] at hn'
    refine ⟨_, rfl, ?_⟩
    obtain ⟨k, rfl⟩ := Int.eq_ofNat_of_zero_le hn'.1
    rw [Int.toNat_natCast] at hQ
    refine put_ok (tag := tag) hs (by omega) fun s tag1 σ1 st1 r1 => ?_
    have hk := (vput_len 8 k (by omega)).2
    refine bufWrite_ok (d := vput k) (h.keep st1 (by simpa using hr) (by simp)) st1.sep (by omega) (by rw [r1.len]; simp) (fun tag2 σ2 st2 => (r1.keep st2 (by simp; omega)).read st2.sep) fun _ _ tag2 σ2 st2 h2 => ?_
    exact hQ tag2 σ2 ((st1.mono (by simp)).trans (st2.mono (by simp))) h2
  · rw [if_pos (by simpa using hn)]
    simp only [hn] at hQ
    obtain ⟨s0, hcap, lr, h1, h2⟩ := h
    refine ⟨_, rfl, ?_⟩
    refine h1.st (i := 3) hs rfl (by simp) rfl fun σ1 st1 r1 => ?_
    exact hQ tag σ1 (st1.mono (by simp)) ⟨s0, hcap, lr, r1, h2.keep st1 (by simp)⟩
set_option maxRecDepth 100000 in
theorem newWriter_ok {r : Nat} {Q : Option Addr → AH → Prop} (hQ : ∀ W tag' σ', (∀ R, Step R ro tag σ tag' σ') → BufAt tag' σ' r W [] false → Q (some ⟨W, 0, none⟩) σ') : c_wire_NewWriter B ro σ Q := by
  refine wire_NewWriter_ok fun hs => ?_
  unfold f_wire_NewWriter
  refine nw_cells (tag := tag) r hs fun W tag1 σ1 st1 r1 => ?_
  exact hQ W tag1 σ1 st1 ⟨⟨none, 0, 0⟩, by decide, 0, r1, Row.nil _ _⟩

theorem not1 : ¬ (IntKind.i64.wrap (0 + 1) < ((1 : Nat) : Int)) := by decide
def wtext (a : Str × Bool) (p : Str) : Str × Bool := ((wnum a p.length).1 ++ p, (wnum a p.length).2)
theorem wtext_len (a : Str × Bool) (p : Str) : (wtext a p).1.length ≤ a.1.length + 9 + p.length := by
  have := wnum_len a p.length
  unfold wtext; simp; omega
set_option maxRecDepth 100000 in
/-- one text -/
theorem texts1_ok {r W x q : Nat} {a : Str × Bool} {p : Str} {Q : AH → Prop} (h : BufAt tag σ r W a.1 a.2) (hr : r ≠ 1) (hq : q ≠ r ∧ q ≠ r + 64 ∧ q ≠ 1) (hs : SL.Sep ro σ) (hl : a.1.length + 9 + p.length ≤ 140737488355328) (hx : Row tag σ q 9 ⟨some ⟨x, 0, none⟩, 1, 1⟩ [Pa.vS p])
    (hQ : ∀ tag' σ', Step [r, r + 64, 1] ro tag σ tag' σ' → BufAt tag' σ' r W (wtext a p).1 (wtext a p).2 → Q σ') : c_wire_Writer_Texts B ro (some ⟨W, 0, none⟩) ⟨some ⟨x, 0, none⟩, 1, 1⟩ σ Q := by
  refine wire_Writer_Texts_ok fun _ => ?_
  unfold f_wire_Writer_Texts
  refine lfpD.intro ?_
  unfold l1_wire_Writer_Texts
  rw [if_pos (by simp)]
  refine ⟨_, rfl, by decide, by simp, S p, hx.cell1 hs, _, rfl, ?_⟩
  have hlen := wnum_len a p.length
  rw [show ((S p).size : Int) = (p.length : Nat) from by rw [← L_len, L_S]]
  refine num_ok h hr hs (by omega) fun tag1 σ1 st1 h1 => ?_
  refine ⟨_, rfl, ?_⟩
  refine bufWriteStr_ok h1 st1.sep (by rw [L_S]; omega) fun _ _ tag2 σ2 st2 h2 => ?_
  rw [L_S] at h2
  refine lfpD.intro ?_
  rw [if_neg (show ¬ (IntKind.i64.wrap (0 + 1) < ((⟨some ⟨x, 0, none⟩, 1, 1⟩ : Sl).len : Int)) from not1)]
  exact hQ tag2 σ2 (st1.trans (st2.mono (by simp))) h2
set_option maxRecDepth 100000 in
/-- one blob -/
theorem blobs1_ok {r W x q : Nat} {a : Str × Bool} {s : Sl} {p : Str} {Q : AH → Prop} (h : BufAt tag σ r W a.1 a.2) (hr : r ≠ 1) (hq : q ≠ r ∧ q ≠ r + 64 ∧ q ≠ 1) (hs : SL.Sep ro σ) (hl : a.1.length + 9 + p.length ≤ 140737488355328) (hx : Row tag σ q 30 ⟨some ⟨x, 0, none⟩, 1, 1⟩ [Sl.v s]) (hsl : s.len = p.length)
    (hsrc : ∀ tag' σ', Step [r, r + 64, 1] ro tag σ tag' σ' → SL.Read ro σ' s (p.map vU)) (hQ : ∀ tag' σ', Step [r, r + 64, 1] ro tag σ tag' σ' → BufAt tag' σ' r W (wtext a p).1 (wtext a p).2 → Q σ') :
    c_wire_Writer_Blobs B ro (some ⟨W, 0, none⟩) ⟨some ⟨x, 0, none⟩, 1, 1⟩ σ Q := by
  refine wire_Writer_Blobs_ok fun _ => ?_
  unfold f_wire_Writer_Blobs
  refine lfpD.intro ?_
  unfold l1_wire_Writer_Blobs
  rw [if_pos (by simp)]
  refine ⟨_, rfl, by decide, by simp, s, hx.cell1 hs, _, rfl, ?_⟩
  have hlen := wnum_len a p.length
  rw [hsl]
  refine num_ok h hr hs (by omega) fun tag1 σ1 st1 h1 => ?_
  refine ⟨_, rfl, ?_⟩
  have wid : ∀ x ∈ [r, r + 64], x ∈ [r, r + 64, 1] := fun x hx => by
    simp only [List.mem_cons, List.not_mem_nil, or_false] at hx ⊢
    rcases hx with h | h <;> simp [h]
  refine bufWrite_ok (d := p) h1 st1.sep (by omega) hsl (fun tag2 σ2 st2 => hsrc tag2 σ2 (st1.trans (st2.mono wid))) fun _ _ tag2 σ2 st2 h2 => ?_
  refine lfpD.intro ?_
  rw [if_neg (show ¬ (IntKind.i64.wrap (0 + 1) < ((⟨some ⟨x, 0, none⟩, 1, 1⟩ : Sl).len : Int)) from not1)]
  exact hQ tag2 σ2 (st1.trans (st2.mono wid)) h2
set_option maxRecDepth 100000 in
theorem nums_ok {r W q : Nat} {s : Sl} {Q : AH → Prop} (hr : r ≠ 1) (hq : q ≠ r ∧ q ≠ r + 64 ∧ q ≠ 1) {ns : List Int} {a : Str × Bool} (h : BufAt tag σ r W a.1 a.2) (hs : SL.Sep ro σ) (hl : a.1.length + 9 * ns.length ≤ 140737488355328) (hx : Row tag σ q 3 s (ns.map Zt.vI))
    (hQ : ∀ tag' σ', Step [r, r + 64, 1] ro tag σ tag' σ' → BufAt tag' σ' r W (ns.foldl wnum a).1 (ns.foldl wnum a).2 → Q σ') : c_wire_Writer_Nums B ro (some ⟨W, 0, none⟩) s σ Q := by
  refine wire_Writer_Nums_ok fun _ => ?_
  unfold f_wire_Writer_Nums
  have hsl : s.len = ns.length := by rw [hx.len, List.length_map]
  suffices ∀ (m j : Nat) (tag1 : Nat → Nat) (σ1 : AH), j + m = ns.length → Step [r, r + 64, 1] ro tag σ tag1 σ1 → ((ns.take j).foldl wnum a).1.length ≤ a.1.length + 9 * j → BufAt tag1 σ1 r W ((ns.take j).foldl wnum a).1 ((ns.take j).foldl wnum a).2 → lfpD (l1_wire_Writer_Nums B ro (some ⟨W, 0, none⟩) s Q) (j : Int) σ1 from
    this _ 0 tag σ (Nat.zero_add _) (Step.refl hs) (by simp) (by simpa using h)
  intro m
  induction m with
  | zero =>
    intro j tag1 σ1 hj st _ h1
    refine lfpD.intro ?_
    unfold l1_wire_Writer_Nums
    rw [if_neg (by omega)]
    rw [List.take_of_length_le (by omega)] at h1
    exact hQ tag1 σ1 st h1
  | succ m ih =>
    intro j tag1 σ1 hj st hln h1
    have hjl : j < ns.length := by omega
    have hx1 := hx.keep st (by simp; omega)
    obtain ⟨p, hp, hg⟩ := hx1.ptr st.sep (by simp; omega)
    refine lfpD.intro ?_
    unfold l1_wire_Writer_Nums
    rw [if_pos (by omega)]
    refine ⟨p, hp, by omega, by omega, ns[j], ?_, _, rfl, ?_⟩
    · have := hg j (Zt.vI ns[j]) (by rw [List.getElem?_map, List.getElem?_eq_getElem hjl]; rfl)
      rw [Int.toNat_natCast]; exact this
    · refine num_ok h1 hr st.sep (by omega) fun tag2 σ2 st2 h2 => ?_
      rw [Pa.inc j (by omega)]
      have e : (ns.take (j + 1)).foldl wnum a = wnum ((ns.take j).foldl wnum a) ns[j] := by
        rw [List.take_add_one, List.getElem?_eq_getElem hjl, List.foldl_append]; rfl
      have := wnum_len ((ns.take j).foldl wnum a) ns[j]
      exact ih (j + 1) tag2 σ2 (by omega) (st.trans st2) (by rw [e]; omega) (by rw [e]; exact h2)
set_option maxRecDepth 100000 in
theorem out_ok {r W : Nat} {a : Str × Bool} {Q : Sl → Int → AH → Prop} (h : BufAt tag σ r W a.1 a.2) (hs : SL.Sep ro σ) (hl : a.1.length ≤ 140737488355328)
    (hbad : a.2 = true → Q ⟨none, 0, 0⟩ 10 σ) (hgood : a.2 = false → ∀ s tag' σ', (∀ R, Step R ro tag σ tag' σ') → Row tag' σ' 6 5 s (a.1.map vU) → Q s 0 σ') : c_wire_Writer_Out B ro (some ⟨W, 0, none⟩) σ Q := by
  refine wire_Writer_Out_ok fun _ => ?_
  unfold f_wire_Writer_Out
  obtain ⟨s0, hcap, lr, h1, h2⟩ := h
  obtain ⟨p, hp, hg⟩ := h1.ptr hs (by simp)
  cases hp
  refine ⟨_, rfl, a.2, hg 3 _ rfl, ?_⟩
  by_cases hb : a.2 = true
  · rw [if_pos hb]; exact hbad hb
  · rw [if_neg hb]
    refine ⟨_, rfl, ?_⟩
    refine bytes_Buffer_Bytes_ok fun _ => ?_
    unfold f_bytes_Buffer_Bytes
    refine ⟨_, rfl, _, rfl, s0, hg 0 _ rfl, 0, hg 1 _ rfl, ⟨trivial, by decide, by simp only [cutHi]; omega⟩, ?_⟩
    rw [show (⟨cutA s0.a (Int.toNat 0) s0.cap 1, s0.len - Int.toNat 0, s0.cap - Int.toNat 0⟩ : Sl) = s0 from by rw [show Int.toNat 0 = 0 from rfl, cutA_zero]; rfl]
    refine clone_ok (tag := tag) (h2.read hs) hs (by simp; omega) (vU_st _) fun s' tag1 σ1 st1 r1 => ?_
    exact hgood (by simpa using hb) s' tag1 σ1 st1 r1
end Go.Proofs.YthfpmipeejjogaaGreatDoor.Wi

/- The wire, the walk: a reader. -/
namespace Go.Proofs.YthfpmipeejjogaaGreatDoor.Wi
open Go Go.Proofs.YthfpmipeejjogaaGreatDoor.SL Go.Proofs.YthfpmipeejjogaaGreatDoor.G Go.Proofs.YthfpmipeejjogaaGreatDoor.Zt
set_option linter.unusedSimpArgs false
set_option linter.unusedVariables false
variable {B : World} {ro σ σ' : AH} {tag tag' : Nat → Nat}

theorem u8and (c : UInt8) : bitAnd .u8 (c.toNat : Int) 127 = ((c.toNat % 128 : Nat) : Int) := by
  have h : ∀ c : Fin 256, bitAnd .u8 ((c.val : Nat) : Int) 127 = ((c.val % 128 : Nat) : Int) := by decide +kernel
  exact h ⟨c.toNat, u8_lt c⟩
theorem orshift {n i : Nat} (c : UInt8) (hi : i ≤ 8) (hn : n < 128 ^ i) :
    bitOr .i64 (n : Int) (IntKind.i64.wrap ((IntKind.i64.wrap (bitAnd .u8 (c.toNat : Int) 127)) * 2 ^ (min (Int.toNat (IntKind.i64.wrap (7 * (i : Int)))) 64))) = ((n + 128 ^ i * (c.toNat % 128) : Nat) : Int) := by
  have hm : c.toNat % 128 < 128 := Nat.mod_lt _ (by decide)
  rw [u8and]
  generalize c.toNat % 128 = m at hm
  rw [w64_eq (n := (m : Int)) (by omega) (by omega), w64_eq (n := 7 * (i : Int)) (by omega) (by omega)]
  have hp : (2 : Int) ^ (min (Int.toNat (7 * (i : Int))) 64) = ((128 ^ i : Nat) : Int) := by
    have : i = 0 ∨ i = 1 ∨ i = 2 ∨ i = 3 ∨ i = 4 ∨ i = 5 ∨ i = 6 ∨ i = 7 ∨ i = 8 := by omega
    rcases this with rfl | rfl | rfl | rfl | rfl | rfl | rfl | rfl | rfl <;> decide
  rw [hp]
  have h8 : 128 ^ i ≤ 128 ^ 8 := Nat.pow_le_pow_right (by decide) hi
  have h9 : m * 128 ^ i ≤ 127 * 128 ^ 8 := Nat.mul_le_mul (by omega) h8
  have h9' : m * 128 ^ i ≤ 9151314442816847872 := by simpa using h9
  have hn' : n < 72057594037927936 := Nat.lt_of_lt_of_le hn (by simpa using h8)
  rw [← Int.natCast_mul, w64_eq (by omega) (by omega)]
  unfold bitOr
  have e : (BitVec.ofInt IntKind.i64.bits (n : Int) ||| BitVec.ofInt IntKind.i64.bits ((m * 128 ^ i : Nat) : Int)).toNat = n + 128 ^ i * m := by
    rw [BitVec.toNat_or, BitVec.ofInt_natCast, BitVec.ofInt_natCast, BitVec.toNat_ofNat, BitVec.toNat_ofNat]
    rw [show IntKind.i64.bits = 64 from rfl, Nat.mod_eq_of_lt (by omega), Nat.mod_eq_of_lt (by omega)]
    have e2 : 128 ^ i = 2 ^ (7 * i) := by rw [Nat.pow_mul]
    rw [Nat.or_comm, Nat.mul_comm m, e2, ← Nat.two_pow_add_eq_or_of_lt (by rw [← e2]; exact hn)]
    omega
  rw [e]
  have : 128 ^ i * m = m * 128 ^ i := Nat.mul_comm _ _
  rw [w64_eq (by omega) (by omega)]

set_option maxRecDepth 100000 in
theorem number_ok {s : Sl} {l : Str} {Q : Int → Int → Int → AH → Prop} (h : SL.Read ro σ s (l.map vU)) (hl : l.length ≤ 140737488355328) (hQ : Q (num l).1 (num l).2.1 (num l).2.2 σ) : c_wire_Number B ro s 0 σ Q := by
  refine wire_Number_ok fun _ => ?_
  unfold f_wire_Number
  have hln : s.len = l.length := by rw [h.1, List.length_map]
  rw [if_neg (by omega)]
  refine ⟨⟨trivial, by decide, by simp only [cutHi]; omega⟩, ?_⟩
  have e0 : (⟨cutA s.a (Int.toNat 0) s.cap 1, s.len - Int.toNat 0, s.cap - Int.toNat 0⟩ : Sl) = s := by rw [show Int.toNat 0 = 0 from rfl, cutA_zero]; rfl
  suffices ∀ (m i : Nat), i + m = 9 → i ≤ l.length → (∀ j c, j < i → l[j]? = some c → 128 ≤ c.toNat) → lfpD (l2_wire_Number B ro s 0 Q) (((val (l.take i) : Nat) : Int), (i : Int)) σ from
    this 9 0 rfl (Nat.zero_le _) (fun j c h => by omega)
  intro m
  induction m with
  | zero =>
    intro i hi hil hall
    have hi9 : i = 9 := by omega
    subst hi9
    refine lfpD.intro ?_
    unfold l2_wire_Number
    simp only [e0]
    have hnum : num l = (0, 0, if l.length < 9 then 12 else 13) := by unfold num; rw [scan_none_of 9 l hall]
    have hj : j1_wire_Number B ro s 0 Q σ := by
      unfold j1_wire_Number
      rw [Int.sub_zero, w64_eq (by omega) (by omega), if_pos (by omega)]
      rw [hnum, if_neg (by omega)] at hQ
      exact hQ
    by_cases hlt : 9 < l.length
    · rw [if_pos (by omega)]
      have ha : s.a ≠ none := fun hn => by have := h.2.1 hn; simp at this; subst this; simp at hlt
      obtain ⟨p, hs⟩ : ∃ p, s.a = some p := by
        cases hs : s.a with
        | none => exact absurd hs ha
        | some p => exact ⟨p, rfl⟩
      · skip
        refine ⟨p, by rw [show Int.toNat 0 = 0 from rfl, cutA_zero, hs], by decide, by omega, (l[9].toNat : Int), ?_, ?_⟩
        · have := h.2.2 p hs 9 (vU l[9]) (by rw [List.getElem?_map, List.getElem?_eq_getElem hlt]; rfl)
          exact this
        · rw [if_pos (by decide)]; exact hj
    · rw [if_neg (by omega)]; exact hj
  | succ m ih =>
    intro i hi hil hall
    refine lfpD.intro ?_
    unfold l2_wire_Number
    simp only [e0]
    by_cases hlt : i < l.length
    · rw [if_pos (by omega)]
      have ha : s.a ≠ none := fun hn => by have := h.2.1 hn; simp at this; subst this; simp at hlt
      obtain ⟨p, hs⟩ : ∃ p, s.a = some p := by
        cases hs : s.a with
        | none => exact absurd hs ha
        | some p => exact ⟨p, rfl⟩
      · skip
        refine ⟨p, by rw [show Int.toNat 0 = 0 from rfl, cutA_zero, hs], by omega, by omega, (l[i].toNat : Int), ?_, ?_⟩
        · have := h.2.2 p hs i (vU l[i]) (by rw [List.getElem?_map, List.getElem?_eq_getElem hlt]; rfl)
          rw [Int.toNat_natCast, Nat.mul_one]; exact this
        · rw [if_neg (by omega)]
          refine ⟨by rw [w64_eq (by omega) (by omega)]; omega, ?_⟩
          rw [orshift l[i] (by omega) (val_take l i)]
          have hlen : (l.take i).length = i := by simp; omega
          have hval : val (l.take i) + 128 ^ i * (l[i].toNat % 128) = val (l.take (i + 1)) := by
            have e : l.take (i + 1) = l.take i ++ [l[i]] := by rw [List.take_add_one, List.getElem?_eq_getElem hlt]; rfl
            rw [e, val_snoc, hlen]
          rw [hval]
          by_cases hc : l[i].toNat < 128
          · rw [if_pos (by omega)]
            have hscan : scan 9 l = some i := scan_of 9 l i l[i] (by omega) hall (List.getElem?_eq_getElem hlt) hc
            have hz : (l[i]? = some 0) ↔ l[i].toNat = 0 := by
              rw [List.getElem?_eq_getElem hlt]
              refine ⟨fun h => by rw [Option.some.inj h]; rfl, fun h => congrArg some (u8_eq h)⟩
            unfold num at hQ
            rw [hscan] at hQ
            simp only at hQ
            by_cases hz0 : ((l[i].toNat : Int) = 0) ∧ ((0 : Int) < (i : Int))
            · rw [if_pos hz0]
              unfold j7_wire_Number
              rw [if_pos rfl]
              rw [if_pos (.inl ⟨by omega, hz.2 (by omega)⟩)] at hQ
              exact hQ
            · rw [if_neg hz0]
              refine right_ok ?_
              unfold j7_wire_Number
              by_cases hr : 4611686018427387904 ≤ val (l.take (i + 1))
              · rw [if_pos (by simp [rightN]; omega)]
                rw [if_pos (.inr hr)] at hQ
                exact hQ
              · rw [if_neg (by simp [rightN]; omega)]
                rw [if_neg (fun h => by
                  rcases h with ⟨h1, h2⟩ | h
                  · exact hz0 ⟨by rw [hz.1 h2]; rfl, by omega⟩
                  · exact hr h)] at hQ
                rw [Int.zero_add, orshift l[i] (by omega) (val_take l i), hval, w64_eq (n := (i : Int)) (by omega) (by omega), w64_eq (by omega) (by omega)]
                exact hQ
          · rw [if_neg (by omega)]
            rw [Pa.inc i (by omega)]
            refine ih (i + 1) (by omega) (by omega) fun j c hj hjc => ?_
            rcases Nat.lt_or_ge j i with h1 | h1
            · exact hall j c h1 hjc
            · have : j = i := by omega
              subst this
              rw [List.getElem?_eq_getElem hlt] at hjc
              cases hjc; omega
    · rw [if_neg (by omega)]
      have hnone : scan 9 l = none := scan_none_of 9 l fun j c _ hjc => hall j c (by
        rcases Nat.lt_or_ge j l.length with h | h
        · omega
        · rw [List.getElem?_eq_none h] at hjc; cases hjc) hjc
      unfold num at hQ
      rw [hnone] at hQ
      simp only at hQ
      unfold j1_wire_Number
      rw [Int.sub_zero, w64_eq (by omega) (by omega), if_neg (by omega)]
      rw [if_pos (by omega)] at hQ
      exact hQ
end Go.Proofs.YthfpmipeejjogaaGreatDoor.Wi

/- The tree, the walk: its paths in order, its size. -/
namespace Go.Proofs.YthfpmipeejjogaaGreatDoor.Zt
open Go Go.Proofs.YthfpmipeejjogaaGreatDoor.SL Go.Proofs.YthfpmipeejjogaaGreatDoor.G Go.Proofs.YthfpmipeejjogaaGreatDoor.Pa Go.Maps Go.Sort Go.Shelf Go.RowKit
set_option linter.unusedSimpArgs false
set_option linter.unusedVariables false
variable {B : World} {ro σ σ' : AH} {tag tag' : Nat → Nat}

theorem kv_keys : ∀ (st : St) (bs : List Nat), bs.length = st.length → (kv st bs).map (·.1) = st.map (·.1) := by
  intro st
  induction st with
  | nil => intro bs h; cases bs <;> rfl
  | cons p st ih =>
    intro bs h
    cases bs with
    | nil => simp at h
    | cons b bs => obtain ⟨p, n⟩ := p; unfold kv; rw [List.map_cons, ih bs (by simpa using h)]; rfl
theorem kv_length (st : St) (bs : List Nat) (h : bs.length = st.length) : (kv st bs).length = st.length := by
  have := congrArg List.length (kv_keys st bs h)
  simpa using this

abbrev RT : Value → Option (DataW Unit × List MemPlace) := fun _ => some (.nil, [])
/-- a map in memory, as the shelf's contracts want it -/
theorem owns {w : World} {b c : Nat} {m : KV} (hm : MapIs tag σ c b m) (hw : Sees ro σ w) (hs : SL.Sep ro σ) (hnd : (m.map (·.1)).Nodup) (hl : ∀ p ∈ m, p.1.length ≤ 128) (hn : m.length ≤ 4398046511104) :
    ∃ D : DataW Unit, w.ownsMap Tryz.prog 9 RT b m.length D ∧ Maps.size D = m.length ∧ (strKeys D).Perm (m.map (·.1)) := by
  obtain ⟨es, clock, hb, he, hbn⟩ := hm.obj
  have hwb := hw b _ (by unfold SL.rd; rw [hs b _ hb]; exact hb)
  have hsz : es.size = m.length := by have := congrArg List.length he; simpa using this
  have hkey : ∀ (i : Nat) (h1 : i < es.toList.length), ∃ h2 : i < m.length, (es.toList[i]).key = .string (S m[i].1) := fun i h1 => by
    have h2 : i < m.length := by rw [← hsz]; simpa using h1
    refine ⟨h2, ?_⟩
    have h := congrArg (·[i]?) he
    simp only [List.getElem?_map, List.getElem?_eq_getElem h1, List.getElem?_eq_getElem h2, Option.map_some] at h
    exact congrArg Prod.fst (Option.some.inj h)
  have hko : ∀ (i : Nat) (h1 : i < es.toList.length) (h2 : i < m.length), WideElems.rd Tryz.prog 9 RT es.toList[i] = some (.string m[i].1, .nil) := fun i h1 h2 => by
    obtain ⟨_, hk⟩ := hkey i h1
    have hlen := hl _ (List.getElem_mem h2)
    unfold WideElems.rd
    rw [hk]
    have : keyOf Tryz.prog 9 (.string (S m[i].1)) = some (.string m[i].1) := by
      unfold keyOf
      rw [u9]
      show mapKey Tryz.prog 9 (.string (S m[i].1)) = _
      unfold mapKey
      rw [u9]
      show (if (S m[i].1).size ≤ maxLen then _ else _) = _
      rw [if_pos (by simp only [S_size, maxLen]; omega)]; rfl
    rw [this]; rfl
  refine ⟨.map ((es.toList.map (WideElems.rg Tryz.prog 9 RT)).foldr DataW.insert []), ⟨es, clock, hwb, ⟨by rw [hsz]; simp only [maxLen]; omega, ⟨hbn.lt, hbn.nd, ?_⟩, ?_⟩, by omega, rfl⟩, ?_, ?_⟩
  · have : es.toList.map (·.key) = (m.map (·.1)).map fun k => Value.string (S k) := by
      apply List.ext_getElem
      · simp [hsz]
      · intro i h1 h2
        simp only [List.getElem_map]
        obtain ⟨_, h⟩ := hkey i (by simpa using h1)
        exact h
    rw [this]
    refine List.Pairwise.map _ (fun a b hab e => hab ?_) hnd
    simpa [S_inj] using e
  · intro x hx
    obtain ⟨i, hi, rfl⟩ := List.getElem_of_mem hx
    obtain ⟨h2, _⟩ := hkey i hi
    exact ⟨_, hko i hi h2⟩
  · show ((es.toList.map (WideElems.rg Tryz.prog 9 RT)).foldr DataW.insert []).length = m.length
    rw [DataW.length_sorted]; simp [hsz]
  · show (((es.toList.map (WideElems.rg Tryz.prog 9 RT)).foldr DataW.insert []).map fun p => strOf p.1).Perm _
    refine ((WideShapes.sorted_perm _).map _).trans ?_
    rw [List.map_map]
    have : es.toList.map ((fun p : Lit × DataW Unit => strOf p.1) ∘ WideElems.rg Tryz.prog 9 RT) = m.map (·.1) := by
      apply List.ext_getElem
      · simp [hsz]
      · intro i h1 h2
        simp only [List.getElem_map, Function.comp]
        have h3 : i < es.toList.length := by simpa using h1
        obtain ⟨h4, _⟩ := hkey i h3
        unfold WideElems.rg
        rw [hko i h3 h4]; rfl
    rw [this]

theorem keys_ok {M : Nat} {Q : Value → AH → Prop} (hQ : ∀ gb tag' σ', (∀ R, Step R ro tag σ tag' σ') → Row tag' σ' 0 126 ⟨some ⟨gb, 0, none⟩, 1, 1⟩ [.map (some M)] → Q (.func (.func 132) #[] #[.pointer (some ⟨gb, 0, none⟩)]) σ') :
    c_maps_Keys_ztree_node B ro (some M) σ Q := by
  refine ACalls.of_calls fun w hw hsep => ?_
  refine (callsIn_wide.1 (Tryz.maps_Keys_109 (some M) w)).mono ?_
  rintro e w' ⟨he, rfl⟩
  obtain ⟨N, tag', hN, hst, hrow⟩ := new_row (tag := tag) (w' := w.alloc (.cells #[.map (some M)] 126)) 0 hw hsep (Nat.le_refl w.heap.size) (heap_alloc_new w _)
  exact ⟨_, N, he, (Below.refl _ w).alloc (Nat.le_refl _) _, hN, _, rfl, hQ _ tag' _ hst (hrow _ _ _ rfl rfl (Nat.le_refl _) rfl)⟩

theorem sorted_ok {gb b c : Nat} {m : KV} {Q : Sl → AH → Prop} (r : Nat) (hg : Row tag σ 0 126 ⟨some ⟨gb, 0, none⟩, 1, 1⟩ [.map (some b)]) (hm : MapIs tag σ c b m) (hnd : (m.map (·.1)).Nodup) (hl : ∀ p ∈ m, p.1.length ≤ 128) (hn : m.length ≤ 4398046511104)
    (hQ : ∀ (s : Sl) (tag' : Nat → Nat) (σ' : AH) (ks : List Str), (∀ R, Step R ro tag σ tag' σ') → ks.Perm (m.map (·.1)) → ks.Pairwise (· ≤ ·) → Row tag' σ' r 9 s (ks.map Pa.vS) → Q s σ') : c_slices_Sorted_string B ro (.func (.func 132) #[] #[.pointer (some ⟨gb, 0, none⟩)]) σ Q := by
  refine ACalls.of_calls fun w hw hsep => ?_
  obtain ⟨D, hown, hsz, hperm⟩ := owns hm hw hsep hnd hl hn
  have hcell : w.cell? ⟨gb, 0, none⟩ = some (.map (some b)) := by
    have h1 := Row.cell1 hg hsep
    unfold acell at h1
    rw [cell?_eq]
    cases hr : SL.rd ro σ gb with
    | none => simp only at h1; rw [hr] at h1; cases h1
    | some o => simp only at h1; rw [hw gb o hr]; rw [hr] at h1; exact h1
  have hlt : gb < w.heap.size := by
    rw [cell?_eq] at hcell
    cases hh : w.heap[gb]? with
    | none => simp only at hcell; rw [hh] at hcell; cases hcell
    | some o => exact lt_of_block hh
  have hseq : SeqGives Fence.wide 2 Tryz.prog 132 #[.pointer (some ⟨gb, 0, none⟩)] encStr (fun ss => ss.Perm (strKeys D)) (Maps.size D) w :=
    AnyZ.keys_gives (ρ := Tryz.keys109_ren) { Tryz.keys109 with } Fence.wide _ trivial rfl (by omega) gb b m.length D w hlt hcell hown
  have hsort := AnyZ.sorted_in Tryz.sorted108 Fence.wide 5 trivial trivial trivial trivial rfl (by omega) (Tryz.sorts108 _) (enters_of Tryz.func131 (by kernel_rfl) rfl) 132 #[.pointer (some ⟨gb, 0, none⟩)] trivial (enters_of Tryz.func132 (by kernel_rfl) rfl) _ _ (by rw [hsz]; simp only [maxLen]; omega) (by rw [hsz]; omega) _ hseq
  refine (callsIn_wide.1 hsort).mono ?_
  rintro e w' ⟨v, ss, he, hS, hrow, hnil, hb⟩
  have hpair : (ss.mergeSort (fun x y => decide (x ≤ y))).Pairwise (· ≤ ·) := by
    have := List.pairwise_mergeSort (le := fun x y : List UInt8 => decide (x ≤ y)) (fun a b c h1 h2 => by simp at *; exact List.le_trans h1 h2) (fun a b => by simp; exact List.le_total a b) ss
    simpa using this
  have hpm : (ss.mergeSort (fun x y => decide (x ≤ y))).Perm (m.map (·.1)) := (List.mergeSort_perm _ _).trans (hS.trans hperm)
  have henc : ∀ l : List (List UInt8), l.map encStr = l.map Pa.vS := fun l => rfl
  rcases hrow with ⟨hlen, ⟨rfl, h0⟩ | ⟨g, cap, cur, rfl, hbase, hgb, r1, r2, r3, r4⟩⟩
  · have h0' : ss = [] := List.eq_nil_of_length_eq_zero h0
    subst h0'
    refine ⟨_, fun _ => none, he, hb, News.none _ _, ⟨none, 0, 0⟩, rfl, ?_⟩
    rw [join_none_right]
    exact hQ _ tag σ _ (fun _ => Step.refl hsep) hpm hpair (by simpa using Row.nil r 9)
  · obtain ⟨N, tag', hN, hst, hrow⟩ := new_row (tag := tag) r hw hsep hbase hgb
    refine ⟨_, N, he, hb, hN, ⟨some ⟨g, 0, none⟩, ss.length, cap⟩, rfl, ?_⟩
    refine hQ _ tag' _ _ hst hpm hpair (hrow _ _ _ (by simp) (by rw [r3, Nat.mul_one]) r1 ?_)
    rw [Nat.mul_one] at r4
    rw [r4]; rfl

set_option maxRecDepth 100000 in
theorem paths_ok {r T M q : Nat} {bs : List Nat} {st : St} {Q : Sl → AH → Prop} (h : TreeAt tag σ r T M bs st) (hl : ∀ p ∈ st, p.1.length ≤ 128) (hn : st.length ≤ 4398046511104)
    (hQ : ∀ (s : Sl) (tag' : Nat → Nat) (σ' : AH) (ks : List Str), (∀ R, Step R ro tag σ tag' σ') → ks.Perm (st.map (·.1)) → ks.Pairwise (· ≤ ·) → Row tag' σ' q 9 s (ks.map Pa.vS) → Q s σ') : c_ztree_Tree_paths B ro (some ⟨T, 0, none⟩) σ Q := by
  refine ztree_Tree_paths_ok fun hs => ?_
  unfold f_ztree_Tree_paths
  refine ⟨_, rfl, _, Row.cell1 h.cell hs, ?_⟩
  refine keys_ok (tag := tag) fun gb tag1 σ1 st1 r1 => ?_
  have hk := kv_keys st bs h.len
  refine sorted_ok q r1 (h.map.keep (st1 []) (by simp)) (by rw [hk]; exact h.keys) (fun p hp => ?_) (by rw [kv_length _ _ h.len]; exact hn) fun s tag' σ' ks st2 hp hs' hr => ?_
  · have : p.1 ∈ (kv st bs).map (·.1) := List.mem_map.2 ⟨p, hp, rfl⟩
    rw [hk] at this
    obtain ⟨x, hx, e⟩ := List.mem_map.1 this
    rw [← e]; exact hl x hx
  · rw [hk] at hp
    exact hQ s tag' σ' ks (fun R => (st1 R).trans (st2 R)) hp hs' hr
end Go.Proofs.YthfpmipeejjogaaGreatDoor.Zt

/- The tree, the walk: Size, Get, Children, the paths under the root. -/
namespace Go.Proofs.YthfpmipeejjogaaGreatDoor.Zt
open Go Go.Proofs.YthfpmipeejjogaaGreatDoor.SL Go.Proofs.YthfpmipeejjogaaGreatDoor.G Go.Proofs.YthfpmipeejjogaaGreatDoor.Pa
set_option linter.unusedSimpArgs false
set_option linter.unusedVariables false
variable {B : World} {ro σ σ' : AH} {tag tag' : Nat → Nat}

set_option maxRecDepth 100000 in
theorem size_ok {r T M : Nat} {bs : List Nat} {st : St} {Q : Int → AH → Prop} (h : TreeAt tag σ r T M bs st) (hQ : Q (st.length : Int) σ) : c_ztree_Tree_Size B ro (some ⟨T, 0, none⟩) σ Q := by
  refine ztree_Tree_Size_ok fun hs => ?_
  unfold f_ztree_Tree_Size
  refine ⟨_, rfl, _, Row.cell1 h.cell hs, ?_⟩
  obtain ⟨es, clock, hb, he, hbn⟩ := h.map.obj
  have hsz : es.size = st.length := by
    have := congrArg List.length he
    simp only [List.length_map, Array.length_toList] at this
    rw [this, kv_length _ _ h.len]
  unfold Builtin.len_
  refine ⟨.map es clock, by unfold SL.rd; rw [hs M _ hb]; exact hb, rfl, ?_⟩
  exact ⟨(st.length : Int), by rw [hsz]; rfl, hQ⟩

theorem call58 {x : Nat} {s : Str} {K : Value → AH → Prop} (h : c_ztree_Tree_Paths_c1 B ro (S s) ⟨x, 0, none⟩ σ fun r σ => K (.bool r) σ) : callV Tryz.prog B ro (.func (.func 58) #[] #[.pointer (some ⟨x, 0, none⟩)]) [.string (S s)] σ K := by
  refine ⟨58, Tryz.f58, #[], #[.pointer (some ⟨x, 0, none⟩)], rfl, Tryz.func58, by kernel_rfl, by kernel_rfl, ?_⟩
  exact ACalls.mono h fun v τ ⟨r, e, q⟩ => e ▸ q
/-- the names right below a path, of a list of paths -/
def namesOf (ks : List Str) (p : Str) : List Str := ks.filterMap fun k => if parent k = some p then base k else none
set_option maxRecDepth 100000 in
theorem children_ok {r T M q : Nat} {bs : List Nat} {st : St} {p : ByteArray} {Q : Sl → Int → AH → Prop} (g : Glob ro) (hr : r < 64) (hr0 : r ≠ 0) (hq0 : q ≠ q + 1) (h : TreeAt tag σ r T M bs st) (hl : ∀ p ∈ st, ∃ ps, parts p.1 = some ps) (hn : st.length ≤ 4398046511104)
    (hbad : parts (L p) = none → Q ⟨none, 0, 0⟩ 20 σ) (hmiss : ∀ ps, parts (L p) = some ps → st.lookup (L p) = none → Q ⟨none, 0, 0⟩ 70 σ)
    (hhit : ∀ n, st.lookup (L p) = some n → ∀ (s : Sl) (tag' : Nat → Nat) (σ' : AH) (ks : List Str), Step [q] ro tag σ tag' σ' → ks.Perm (st.map (·.1)) → ks.Pairwise (· ≤ ·) → Row tag' σ' q 9 s ((namesOf ks (L p)).map Pa.vS) → Q s 0 σ') : c_ztree_Tree_Children B ro (some ⟨T, 0, none⟩) p σ Q := by
  refine ztree_Tree_Children_ok fun hs => ?_
  unfold f_ztree_Tree_Children
  refine find_ok g h hs (fun hb => ?_) (fun ps hps hl' => ?_) (fun ps i b n hps hb hp hl' => ?_)
  · rw [if_pos (by decide)]; exact hbad hb
  · rw [if_pos (by decide)]; exact hmiss ps hps hl'
  · rw [if_neg (by decide)]
    have h128 : ∀ p ∈ st, p.1.length ≤ 128 := fun p hp => by
      obtain ⟨ps, e⟩ := hl p hp
      obtain ⟨e1, e2⟩ := parts_iff.1 e
      rw [e1]; exact e2.len
    refine paths_ok (q := q + 1) h h128 hn fun s tag2 σ2 ks st2 hpm hsrt hr2 => ?_
    have hln : s.len = ks.length := by rw [hr2.len, List.length_map]
    have hkl : ks.length = st.length := by rw [hpm.length_eq, List.length_map]
    suffices ∀ m j (so : Sl) tag3 σ3, j + m = ks.length → Step [q] ro tag2 σ2 tag3 σ3 → Row tag3 σ3 (q + 1) 9 s (ks.map Pa.vS) → Row tag3 σ3 q 9 so ((namesOf (ks.take j) (L p)).map Pa.vS) → lfpD (l6_ztree_Tree_Children B ro p s Q) (so, (j : Int)) σ3 from
      this _ 0 ⟨none, 0, 0⟩ tag2 σ2 (Nat.zero_add _) (Step.refl (st2 []).sep) hr2 (Row.nil q 9)
    intro m
    induction m with
    | zero =>
      intro j so tag3 σ3 hj st3 hs3 hso
      refine lfpD.intro ?_
      unfold l6_ztree_Tree_Children
      simp only
      rw [if_neg (by omega)]
      unfold j3_ztree_Tree_Children
      rw [List.take_of_length_le (by omega)] at hso
      exact hhit n hl' so tag3 σ3 ks ((st2 _).trans st3) hpm hsrt hso
    | succ m ih =>
      intro j so tag3 σ3 hj st3 hs3 hso
      have hjl : j < ks.length := by omega
      obtain ⟨pp, hpp, _, hget⟩ := Row.sget hs3 st3.sep hjl
      have htake : ∀ x, namesOf (ks.take (j + 1)) x = namesOf (ks.take j) x ++ namesOf [ks[j]] x := fun x => by
        rw [List.take_succ_eq_append_getElem hjl]; unfold namesOf; rw [List.filterMap_append]
      have hlen : (namesOf (ks.take j) (L p)).length ≤ j := by
        unfold namesOf
        refine Nat.le_trans (List.length_filterMap_le _ _) ?_
        simp; omega
      refine lfpD.intro ?_
      unfold l6_ztree_Tree_Children
      simp only
      rw [if_pos (by omega)]
      refine ⟨pp, hpp, by omega, by omega, _, hget j hjl, ?_⟩
      have skip : parent ks[j] ≠ some (L p) → j9_ztree_Tree_Children B ro p s (j : Int) Q (lfpD (l6_ztree_Tree_Children B ro p s Q)) so σ3 := fun hne => by
        unfold j9_ztree_Tree_Children
        rw [Pa.inc j (by omega)]
        refine ih (j + 1) so tag3 σ3 (by omega) st3 hs3 ?_
        rw [htake, show namesOf [ks[j]] (L p) = [] by simp [namesOf, hne], List.append_nil]; exact hso
      refine parent_ok g (fun hnone => ?_) (fun u hu => ?_)
      · rw [if_neg (by simp)]
        exact skip (by rw [L_S] at hnone; rw [hnone]; simp)
      · rw [L_S] at hu
        by_cases hup : u = L p
        · rw [if_pos ⟨rfl, by rw [hup, S_L]⟩]
          have hbase : ∃ x, base ks[j] = some x := by
            unfold parent at hu
            unfold base
            cases hq : parts ks[j] with
            | none => rw [hq] at hu; cases hu
            | some qs =>
              rw [hq] at hu
              simp only at hu ⊢
              split at hu
              · cases hu
              · rename_i hne
                exact ⟨_, List.getLast?_eq_some_getLast hne⟩
          obtain ⟨x, hx⟩ := hbase
          refine base_ok g (fun hnone => by rw [L_S, hx] at hnone; cases hnone) (fun y hy => ?_)
          rw [L_S, hx] at hy
          cases hy
          refine nw_cells (tag := tag3) 0 st3.sep fun c tag4 σ4 st4 r4 => ?_
          refine awp_append1 (hso.keep (st4 []) (by simp)) (st4 []).sep t25 ty9 rfl rfl (Row.cell1 r4 (st4 []).sep) rfl (by rw [List.length_map]; omega) (by decide) fun s' tag5 σ5 st5 r5 => ?_
          refine ⟨s', rfl, ?_⟩
          unfold j9_ztree_Tree_Children
          rw [Pa.inc j (by omega)]
          refine ih (j + 1) s' tag5 σ5 (by omega) (st3.trans ((st4 _).trans st5)) ((hs3.keep (st4 []) (by simp)).keep st5 (by simp)) ?_
          rw [htake, show namesOf [ks[j]] (L p) = [x] by simp [namesOf, hu, hup, hx], List.map_append]
          exact r5
        · rw [if_neg (fun h' => hup (by rw [← h'.2, L_S]))]
          exact skip (by rw [hu]; intro h'; exact hup (Option.some.inj h'))
end Go.Proofs.YthfpmipeejjogaaGreatDoor.Zt

/- Functions as predicate transformers, and the proofs that the code does what they tell: printed by wip/tools/gen.py. -/
namespace Go.Proofs.YthfpmipeejjogaaGreatDoor.G
open Go Go.Proofs.YthfpmipeejjogaaGreatDoor.SL
set_option linter.unusedVariables false
set_option linter.unusedSimpArgs false

def f_ref01_Copy (B : World) (ro : AH) (a0 : Sl) (σ : AH) (Q : Sl → AH → Prop) : Prop :=
 nw ro σ (.cells #[Sl.v a0] 30) fun x4_1 σ =>
 c_ref01_Join B ro (⟨some ⟨x4_1, 0, none⟩, 1, 1⟩ : Sl) σ fun x5_2 σ =>
 Q x5_2 σ

set_option maxRecDepth 100000 in
set_option maxHeartbeats 4000000 in
theorem ref01_Copy_ok {B : World} {ro : AH} {a0 : Sl} {σ : AH} {Q : Sl → AH → Prop} (h : Sep ro σ → f_ref01_Copy B ro a0 σ Q) : c_ref01_Copy B ro a0 σ Q := by
  refine ACalls.of_sep fun hsep => ?_
  replace h := h hsep
  refine ACalls.of_body (args := [Sl.v a0]) Tryz.func23 rfl (by rw [Tryz.ntmps23]; simp) ?_
  rw [Tryz.ntmps23]
  unfold f_ref01_Copy at h
  refine AW.seq ?_
  refine AW.reg ?_
  refine Lp (V_asg rfl rfl) rfl rfl ?_
  refine Lnil ?_
  refine thenN ?_
  refine AW.seq ?_
  refine AW.reg ?_
  refine Lp (V_move rfl rfl) rfl rfl ?_
  refine Ls rfl rfl (X_new (A_bsl (vs := [(0, Sl.v a0)]) (cs := #[Sl.v a0]) rfl Tryz.underlying208 ty30 (by decide) rfl rfl) fun x4_1 g1 g2 => ?_)
  replace h := h x4_1 g1 g2
  refine Ls rfl rfl (X_call rfl Tryz.func72 rfl rfl rfl (ACalls.mono h ?_))
  rintro v σ ⟨x5_2, rfl, h⟩
  refine Lp (V_asg rfl rfl) rfl rfl ?_
  refine Lnil ?_
  refine thenN ?_
  refine AW.ret ?_
  exact bR1 Tryz.results23 rfl ⟨_, rfl, h⟩

def f_ref01_Same (B : World) (ro : AH) (a0 : Sl) (a1 : Sl) (σ : AH) (Q : Bool → AH → Prop) : Prop :=
 awp Tryz.prog ro (convert 30 9 (Sl.v a0)) (fun v σ =>
  (∃ (x6_1 : ByteArray), v = .string x6_1 ∧
   awp Tryz.prog ro (convert 30 9 (Sl.v a1)) (fun v σ =>
    (∃ (x8_2 : ByteArray), v = .string x8_2 ∧
     Q (decide (x6_1 = x8_2)) σ)) σ)) σ

set_option maxRecDepth 100000 in
set_option maxHeartbeats 4000000 in
theorem ref01_Same_ok {B : World} {ro : AH} {a0 : Sl} {a1 : Sl} {σ : AH} {Q : Bool → AH → Prop} (h : Sep ro σ → f_ref01_Same B ro a0 a1 σ Q) : c_ref01_Same B ro a0 a1 σ Q := by
  refine ACalls.of_sep fun hsep => ?_
  replace h := h hsep
  refine ACalls.of_body (args := [Sl.v a0, Sl.v a1]) Tryz.func26 rfl (by rw [Tryz.ntmps26]; simp) ?_
  rw [Tryz.ntmps26]
  unfold f_ref01_Same at h
  refine AW.seq ?_
  refine AW.reg ?_
  refine Lp (V_asg rfl rfl) rfl rfl ?_
  refine Lnil ?_
  refine thenN ?_
  refine AW.seq ?_
  refine AW.reg ?_
  refine Lp (V_move rfl rfl) rfl rfl ?_
  refine Ls rfl rfl (X_cvt rfl rfl (awp_mono _ h ?_))
  rintro v σ ⟨x6_1, rfl, h⟩
  refine Lp (V_move rfl rfl) rfl rfl ?_
  refine Ls rfl rfl (X_cvt rfl rfl (awp_mono _ h ?_))
  rintro v σ ⟨x8_2, rfl, h⟩
  refine Lp (V_eqlS rfl rfl rfl) rfl rfl ?_
  refine Lp (V_asg rfl rfl) rfl rfl ?_
  refine Lnil ?_
  refine thenN ?_
  refine AW.ret ?_
  exact bR1 Tryz.results26 rfl ⟨_, rfl, h⟩

def j2_ref01_Join (B : World) (ro : AH) (Q : Sl → AH → Prop) (x3_3 : Sl) (σ : AH) : Prop :=
 Q x3_3 σ

def l4_ref01_Join (B : World) (ro : AH) (a0 : Sl) (Q : Sl → AH → Prop) : (Sl × Int) → AH → ((Sl × Int) → AH → Prop) → Prop := fun ⟨x3_5, x4_6⟩ σ Y4 =>
 if x4_6 < (a0.len : Int) then
  ∃ p15_7 : Addr, a0.a = some p15_7 ∧ (0 : Int) ≤ x4_6 ∧ x4_6 < (a0.len : Int) ∧
  ∃ (x16_8 : Sl), acell ro σ (p15_7.add (Int.toNat x4_6 * 1)) = some (Sl.v x16_8) ∧
  awp Tryz.prog ro (Builtin.append_ #[30, 30] 30 #[Sl.v x3_5, Sl.v x16_8]) (fun v σ => ∃ (x17_9 : Sl), v = Sl.v x17_9 ∧
   Y4 (x17_9, IntKind.i64.wrap (x4_6 + 1)) σ) σ
 else
 j2_ref01_Join B ro Q x3_5 σ

def f_ref01_Join (B : World) (ro : AH) (a0 : Sl) (σ : AH) (Q : Sl → AH → Prop) : Prop :=
 nw ro σ (.cells #[] 5) fun x5_1 σ =>
 lfpD (l4_ref01_Join B ro a0 Q ) ((⟨some ⟨x5_1, 0, none⟩, 0, 0⟩ : Sl), 0) σ

set_option maxRecDepth 100000 in
set_option maxHeartbeats 4000000 in
theorem ref01_Join_ok {B : World} {ro : AH} {a0 : Sl} {σ : AH} {Q : Sl → AH → Prop} (h : Sep ro σ → f_ref01_Join B ro a0 σ Q) : c_ref01_Join B ro a0 σ Q := by
  refine ACalls.of_sep fun hsep => ?_
  replace h := h hsep
  refine ACalls.of_body (args := [Sl.v a0]) Tryz.func72 rfl (by rw [Tryz.ntmps72]; simp) ?_
  rw [Tryz.ntmps72]
  unfold f_ref01_Join at h
  refine AW.seq ?_
  refine AW.reg ?_
  refine Lp (V_asg rfl rfl) rfl rfl ?_
  refine Lnil ?_
  refine thenN ?_
  refine AW.seq ?_
  refine AW.reg ?_
  refine Ls rfl rfl (X_new (A_bsl (vs := []) (cs := #[]) rfl Tryz.underlying30 ty5 (by decide) rfl rfl) fun x5_1 g1 g2 => ?_)
  replace h := h x5_1 g1 g2
  refine Lp (V_asg rfl rfl) rfl rfl ?_
  refine Lnil ?_
  refine thenN ?_
  refine AW.seqJ (fun fr σ => ∃ (x3_3 : Sl), FrLe [(3, Sl.v x3_3)] fr ∧ j2_ref01_Join B ro Q x3_3 σ) ?_ ?_
  · rintro fr σ ⟨x3_3, hl, h⟩
    refine AW.weaken ?_ hl (HLe.refl _)
    unfold j2_ref01_Join at h
    refine AW.seq ?_
    refine AW.reg ?_
    refine Lp (V_move rfl rfl) rfl rfl ?_
    refine Lp (V_asg rfl rfl) rfl rfl ?_
    refine Lnil ?_
    refine thenN ?_
    refine AW.ret ?_
    exact bR1 Tryz.results72 rfl ⟨_, rfl, h⟩
  refine AW.seq ?_
  refine AW.reg ?_
  refine Lp (V_asg rfl rfl) rfl rfl ?_
  refine Lnil ?_
  refine thenN ?_
  refine AW.block ?_
  refine ARound.loop (fr' := [(0, Sl.v a0), (3, Sl.v (⟨some ⟨x5_1, 0, none⟩, 0, 0⟩ : Sl)), (4, .int .i64 0)]) ?_ (FrLe.cons rfl (FrLe.cons rfl (FrLe.cons rfl (FrLe.nil _))))
  refine h (fun ⟨x3_5, x4_6⟩ σ => ARound _ _ _ _ _ _ [(0, Sl.v a0), (3, Sl.v x3_5), (4, .int .i64 x4_6)] σ) ?_
  rintro ⟨x3_5, x4_6⟩ σ Y4 hY4 h
  show AW _ _ _ _ _ _ _ _
  unfold l4_ref01_Join at h
  dsimp only at h
  refine AW.seq ?_
  refine AW.seq ?_
  refine AW.reg ?_
  refine Lp (V_move rfl rfl) rfl rfl ?_
  refine Lp (V_move rfl rfl) rfl rfl ?_
  refine Lp (V_lenL rfl rfl Tryz.underlying208 rfl rfl) rfl rfl ?_
  refine Lp (V_lss rfl rfl rfl) rfl rfl ?_
  refine Lnil ?_
  refine thenN ?_
  refine AW.iff rfl decide_eq_true_iff h (fun h => ?_) (fun h => ?_)
  rotate_left
  · refine AW.exit ?_
    refine thenE ?_
    refine thenE ?_
    refine blockE ?_
    refine thenN ?_
    exact ⟨_, (FrLe.cons rfl (FrLe.nil _)), h⟩
  refine AW.skip ?_
  refine thenN ?_
  refine AW.seq ?_
  refine AW.block ?_
  refine AW.reg ?_
  refine Lp (V_move rfl rfl) rfl rfl ?_
  refine Lp (V_move rfl rfl) rfl rfl ?_
  refine Lp (V_move rfl rfl) rfl rfl ?_
  obtain ⟨p15_7, ha, h0, h1, h⟩ := h
  refine Lp (V_ixA rfl Tryz.underlying208 ty30 (ixL rfl ha) rfl h0 h1) rfl rfl ?_
  obtain ⟨x16_8, hc, h⟩ := h
  refine Ls rfl rfl (X_ld rfl Tryz.underlying30 rfl rfl hc ?_)
  refine Ls rfl rfl (X_bi (s := Builtin.append_ #[30, 30] 30 #[Sl.v x3_5, Sl.v x16_8]) rfl rfl (fun _ => rfl) (awp_mono _ h ?_))
  rintro v σ ⟨x17_9, rfl, h⟩
  refine Lp (V_asg rfl rfl) rfl rfl ?_
  refine Lnil ?_
  refine blockN ?_
  refine thenN ?_
  refine AW.reg ?_
  refine Lp (V_move rfl rfl) rfl rfl ?_
  refine Lp (V_add rfl rfl rfl) rfl rfl ?_
  refine Lp (V_asg rfl rfl) rfl rfl ?_
  refine Lnil ?_
  refine thenN ?_
  refine ARound.head (fr' := [(0, Sl.v a0), (3, Sl.v x17_9), (4, .int .i64 (IntKind.i64.wrap (x4_6 + 1)))]) ?_ (FrLe.cons rfl (FrLe.cons rfl (FrLe.cons rfl (FrLe.nil _))))
  exact hY4 _ _ h

def f_ref01_Reader_Left (B : World) (ro : AH) (a0 : Option Addr) (σ : AH) (Q : Int → AH → Prop) : Prop :=
 ∃ p4_1 : Addr, a0 = some p4_1 ∧
 ∃ p9_2 : Addr, a0 = some p9_2 ∧
 ∃ (x6_3 : Sl), acell ro σ p4_1 = some (Sl.v x6_3) ∧
 ∃ (x11_4 : Int), acell ro σ (p9_2.add 1) = some (.int .i64 x11_4) ∧
 Q (IntKind.i64.wrap ((x6_3.len : Int) - x11_4)) σ

set_option maxRecDepth 100000 in
set_option maxHeartbeats 4000000 in
theorem ref01_Reader_Left_ok {B : World} {ro : AH} {a0 : Option Addr} {σ : AH} {Q : Int → AH → Prop} (h : Sep ro σ → f_ref01_Reader_Left B ro a0 σ Q) : c_ref01_Reader_Left B ro a0 σ Q := by
  refine ACalls.of_sep fun hsep => ?_
  replace h := h hsep
  refine ACalls.of_body (args := [.pointer a0]) Tryz.func81 rfl (by rw [Tryz.ntmps81]; simp) ?_
  rw [Tryz.ntmps81]
  unfold f_ref01_Reader_Left at h
  refine AW.seq ?_
  refine AW.reg ?_
  refine Lp (V_asg rfl rfl) rfl rfl ?_
  refine Lnil ?_
  refine thenN ?_
  refine AW.seq ?_
  refine AW.drawn0 (fun i => ([0, 0, 0, 3, 0, 0, 0, 0, 3, 0, 0] : List Nat).getD i 2) [] [0, 1, 2, 5, 6, 7, 3, 4, 8, 9, 10] Tryz.mixed (by decide +kernel) ?_
  refine Dp rfl rfl rfl rfl (V_move rfl rfl) ?_
  obtain ⟨p4_1, hc, h⟩ := h
  refine Dp rfl rfl rfl rfl (V_nil rfl (by rw [← hc]; rfl)) ?_
  refine Dp rfl rfl rfl rfl (V_fld rfl Tryz.underlying154 rfl ty30 (by decide) rfl) ?_
  refine Dp rfl rfl rfl rfl (V_move rfl rfl) ?_
  obtain ⟨p9_2, hc, h⟩ := h
  refine Dp rfl rfl rfl rfl (V_nil rfl (by rw [← hc]; rfl)) ?_
  refine Dp rfl rfl rfl rfl (V_fld rfl Tryz.underlying154 rfl ty3 (by decide) rfl) ?_
  obtain ⟨x6_3, hc, h⟩ := h
  refine Dr rfl rfl rfl rfl (R_ld rfl Tryz.underlying30 rfl rfl hc) ?_
  refine Dp rfl rfl rfl rfl (V_lenL rfl rfl Tryz.underlying30 rfl rfl) ?_
  obtain ⟨x11_4, hc, h⟩ := h
  refine Dr rfl rfl rfl rfl (R_ld rfl Tryz.underlying3 rfl rfl hc) ?_
  refine Dp rfl rfl rfl rfl (V_sub rfl rfl rfl) ?_
  refine Dp rfl rfl rfl rfl (V_asg rfl rfl) ?_
  refine Dend ?_
  refine thenN ?_
  refine AW.ret ?_
  exact bR1 Tryz.results81 rfl ⟨_, rfl, h⟩

def f_ref01_Reader_Blob (B : World) (ro : AH) (a0 : Option Addr) (σ : AH) (Q : Sl → AH → Prop) : Prop :=
 ∃ p7_1 : Addr, a0 = some p7_1 ∧
 ∃ (x9_2 : Int), acell ro σ (p7_1.add 1) = some (.int .i64 x9_2) ∧
 c_ref01_Reader_Num B ro a0 σ fun x11_3 σ =>
 ∃ p13_4 : Addr, a0 = some p13_4 ∧
 ∃ (x15_5 : Int), acell ro σ (p13_4.add 2) = some (.int .i64 x15_5) ∧
 if ¬ (x15_5 = 0) then
  Q (⟨none, 0, 0⟩ : Sl) σ
 else
 c_ref01_Reader_Left B ro a0 σ fun x19_6 σ =>
 if x19_6 < x11_3 then
  ∃ p22_7 : Addr, a0 = some p22_7 ∧
  stN (p22_7.add 2) (fun σ =>
   ∃ p26_8 : Addr, a0 = some p26_8 ∧
   stN (p26_8.add 1) (fun σ =>
    Q (⟨none, 0, 0⟩ : Sl) σ) [.int .i64 x9_2] 0 σ) [.int .i64 12] 0 σ
 else
 ∃ p29_9 : Addr, a0 = some p29_9 ∧
 ∃ p33_10 : Addr, a0 = some p33_10 ∧
 ∃ p37_11 : Addr, a0 = some p37_11 ∧
 ∃ (x31_12 : Sl), acell ro σ p29_9 = some (Sl.v x31_12) ∧
 ∃ (x35_13 : Int), acell ro σ (p33_10.add 1) = some (.int .i64 x35_13) ∧
 ∃ (x39_14 : Int), acell ro σ (p37_11.add 1) = some (.int .i64 x39_14) ∧
 cutOk (some x35_13) (some (IntKind.i64.wrap (x39_14 + x11_3))) x31_12.len x31_12.cap ∧
 c_ref01_Copy B ro (⟨cutA x31_12.a (Int.toNat x35_13) x31_12.cap 1, Int.toNat (IntKind.i64.wrap (x39_14 + x11_3)) - Int.toNat x35_13, x31_12.cap - Int.toNat x35_13⟩ : Sl) σ fun x43_15 σ =>
 ∃ p45_16 : Addr, a0 = some p45_16 ∧
 ∃ (x47_17 : Int), acell ro σ (p45_16.add 1) = some (.int .i64 x47_17) ∧
 ∃ p50_18 : Addr, a0 = some p50_18 ∧
 stN (p50_18.add 1) (fun σ =>
  Q x43_15 σ) [.int .i64 (IntKind.i64.wrap (x47_17 + x11_3))] 0 σ

set_option maxRecDepth 100000 in
set_option maxHeartbeats 4000000 in
theorem ref01_Reader_Blob_ok {B : World} {ro : AH} {a0 : Option Addr} {σ : AH} {Q : Sl → AH → Prop} (h : Sep ro σ → f_ref01_Reader_Blob B ro a0 σ Q) : c_ref01_Reader_Blob B ro a0 σ Q := by
  refine ACalls.of_sep fun hsep => ?_
  replace h := h hsep
  refine ACalls.of_body (args := [.pointer a0]) Tryz.func82 rfl (by rw [Tryz.ntmps82]; simp) ?_
  rw [Tryz.ntmps82]
  unfold f_ref01_Reader_Blob at h
  refine AW.seq ?_
  refine AW.reg ?_
  refine Lp (V_asg rfl rfl) rfl rfl ?_
  refine Lnil ?_
  refine thenN ?_
  refine AW.seq ?_
  refine AW.reg ?_
  refine Lp (V_move rfl rfl) rfl rfl ?_
  obtain ⟨p7_1, hc, h⟩ := h
  refine Lp (V_nil rfl (by rw [← hc]; rfl)) rfl rfl ?_
  refine Lp (V_fld rfl Tryz.underlying154 rfl ty3 (by decide) rfl) rfl rfl ?_
  obtain ⟨x9_2, hc, h⟩ := h
  refine Ls rfl rfl (X_ld rfl Tryz.underlying3 rfl rfl hc ?_)
  refine Lp (V_asg rfl rfl) rfl rfl ?_
  refine Lnil ?_
  refine thenN ?_
  refine AW.seq ?_
  refine AW.reg ?_
  refine Lp (V_move rfl rfl) rfl rfl ?_
  refine Ls rfl rfl (X_call rfl Tryz.func83 rfl rfl rfl (ACalls.mono h ?_))
  rintro v σ ⟨x11_3, rfl, h⟩
  refine Lp (V_asg rfl rfl) rfl rfl ?_
  refine Lnil ?_
  refine thenN ?_
  refine AW.seq ?_
  refine AW.seq ?_
  refine AW.reg ?_
  refine Lp (V_move rfl rfl) rfl rfl ?_
  obtain ⟨p13_4, hc, h⟩ := h
  refine Lp (V_nil rfl (by rw [← hc]; rfl)) rfl rfl ?_
  refine Lp (V_fld rfl Tryz.underlying154 rfl ty3 (by decide) rfl) rfl rfl ?_
  obtain ⟨x15_5, hc, h⟩ := h
  refine Ls rfl rfl (X_ld rfl Tryz.underlying3 rfl rfl hc ?_)
  refine Lp (V_neq rfl rfl rfl) rfl rfl ?_
  refine Lnil ?_
  refine thenN ?_
  refine AW.iff rfl (bnot_iff decide_eq_true_iff) h (fun h => ?_) (fun h => ?_)
  · refine AW.seq ?_
    refine AW.reg ?_
    refine Lp (V_asg rfl rfl) rfl rfl ?_
    refine Lnil ?_
    refine thenN ?_
    refine AW.ret ?_
    refine thenR ?_
    exact bR1 Tryz.results82 rfl ⟨_, rfl, h⟩
  refine AW.skip ?_
  refine thenN ?_
  refine AW.seq ?_
  refine AW.seq ?_
  refine AW.reg ?_
  refine Lp (V_move rfl rfl) rfl rfl ?_
  refine Lp (V_move rfl rfl) rfl rfl ?_
  refine Ls rfl rfl (X_call rfl Tryz.func81 rfl rfl rfl (ACalls.mono h ?_))
  rintro v σ ⟨x19_6, rfl, h⟩
  refine Lp (V_gtr rfl rfl rfl) rfl rfl ?_
  refine Lnil ?_
  refine thenN ?_
  refine AW.iff rfl decide_eq_true_iff h (fun h => ?_) (fun h => ?_)
  · refine AW.seq ?_
    refine AW.reg ?_
    refine Lp (V_move rfl rfl) rfl rfl ?_
    obtain ⟨p22_7, hc, h⟩ := h
    refine Lp (V_nil rfl (by rw [← hc]; rfl)) rfl rfl ?_
    refine Lp (V_fld rfl Tryz.underlying154 rfl ty3 (by decide) rfl) rfl rfl ?_
    refine Ls rfl rfl (X_st rfl ty3 rfl rfl rfl rfl (stN_mono h fun σ h => ?_))
    refine Lnil ?_
    refine thenN ?_
    refine AW.seq ?_
    refine AW.reg ?_
    refine Lp (V_move rfl rfl) rfl rfl ?_
    refine Lp (V_move rfl rfl) rfl rfl ?_
    obtain ⟨p26_8, hc, h⟩ := h
    refine Lp (V_nil rfl (by rw [← hc]; rfl)) rfl rfl ?_
    refine Lp (V_fld rfl Tryz.underlying154 rfl ty3 (by decide) rfl) rfl rfl ?_
    refine Ls rfl rfl (X_st rfl ty3 rfl rfl rfl rfl (stN_mono h fun σ h => ?_))
    refine Lnil ?_
    refine thenN ?_
    refine AW.seq ?_
    refine AW.reg ?_
    refine Lp (V_asg rfl rfl) rfl rfl ?_
    refine Lnil ?_
    refine thenN ?_
    refine AW.ret ?_
    refine thenR ?_
    exact bR1 Tryz.results82 rfl ⟨_, rfl, h⟩
  refine AW.skip ?_
  refine thenN ?_
  refine AW.seq ?_
  refine AW.drawn0 (fun i => ([0, 0, 0, 3, 0, 0, 0, 3, 0, 0, 0, 3, 0, 0, 0, 2, 0] : List Nat).getD i 2) [(3, 14), (3, 15), (7, 14), (7, 15), (11, 13), (11, 14), (11, 15)] [0, 1, 2, 4, 5, 6, 8, 9, 10, 12, 3, 7, 11, 13, 14, 15, 16] Tryz.mixed (by decide +kernel) ?_
  refine Dp rfl rfl rfl rfl (V_move rfl rfl) ?_
  obtain ⟨p29_9, hc, h⟩ := h
  refine Dp rfl rfl rfl rfl (V_nil rfl (by rw [← hc]; rfl)) ?_
  refine Dp rfl rfl rfl rfl (V_fld rfl Tryz.underlying154 rfl ty30 (by decide) rfl) ?_
  refine Dp rfl rfl rfl rfl (V_move rfl rfl) ?_
  obtain ⟨p33_10, hc, h⟩ := h
  refine Dp rfl rfl rfl rfl (V_nil rfl (by rw [← hc]; rfl)) ?_
  refine Dp rfl rfl rfl rfl (V_fld rfl Tryz.underlying154 rfl ty3 (by decide) rfl) ?_
  refine Dp rfl rfl rfl rfl (V_move rfl rfl) ?_
  obtain ⟨p37_11, hc, h⟩ := h
  refine Dp rfl rfl rfl rfl (V_nil rfl (by rw [← hc]; rfl)) ?_
  refine Dp rfl rfl rfl rfl (V_fld rfl Tryz.underlying154 rfl ty3 (by decide) rfl) ?_
  refine Dp rfl rfl rfl rfl (V_move rfl rfl) ?_
  obtain ⟨x31_12, hc, h⟩ := h
  refine Dr rfl rfl rfl rfl (R_ld rfl Tryz.underlying30 rfl rfl hc) ?_
  obtain ⟨x35_13, hc, h⟩ := h
  refine Dr rfl rfl rfl rfl (R_ld rfl Tryz.underlying3 rfl rfl hc) ?_
  obtain ⟨x39_14, hc, h⟩ := h
  refine Dr rfl rfl rfl rfl (R_ld rfl Tryz.underlying3 rfl rfl hc) ?_
  refine Dp rfl rfl rfl rfl (V_add rfl rfl rfl) ?_
  obtain ⟨hc, h⟩ := h
  refine Dp rfl rfl rfl rfl (V_slL (lo := (some x35_13)) (hi := (some (IntKind.i64.wrap (x39_14 + x11_3)))) rfl Tryz.underlying30 ty5 rfl (optI_some rfl) (optI_some rfl) hc) ?_
  refine Dg rfl rfl rfl rfl (X_call rfl Tryz.func23 rfl rfl rfl (ACalls.mono h ?_))
  rintro v σ ⟨x43_15, rfl, h⟩
  refine Dp rfl rfl rfl rfl (V_asg rfl rfl) ?_
  refine Dend ?_
  refine thenN ?_
  refine AW.seq ?_
  refine AW.reg ?_
  refine Lp (V_move rfl rfl) rfl rfl ?_
  obtain ⟨p45_16, hc, h⟩ := h
  refine Lp (V_nil rfl (by rw [← hc]; rfl)) rfl rfl ?_
  refine Lp (V_fld rfl Tryz.underlying154 rfl ty3 (by decide) rfl) rfl rfl ?_
  obtain ⟨x47_17, hc, h⟩ := h
  refine Ls rfl rfl (X_ld rfl Tryz.underlying3 rfl rfl hc ?_)
  refine Lp (V_move rfl rfl) rfl rfl ?_
  refine Lp (V_add rfl rfl rfl) rfl rfl ?_
  obtain ⟨p50_18, hc, h⟩ := h
  refine Lp (V_nil rfl (by rw [← hc]; rfl)) rfl rfl ?_
  refine Lp (V_fld rfl Tryz.underlying154 rfl ty3 (by decide) rfl) rfl rfl ?_
  refine Ls rfl rfl (X_st rfl ty3 rfl rfl rfl rfl (stN_mono h fun σ h => ?_))
  refine Lnil ?_
  refine thenN ?_
  refine AW.seq ?_
  refine AW.reg ?_
  refine Lp (V_move rfl rfl) rfl rfl ?_
  refine Lp (V_asg rfl rfl) rfl rfl ?_
  refine Lnil ?_
  refine thenN ?_
  refine AW.ret ?_
  exact bR1 Tryz.results82 rfl ⟨_, rfl, h⟩

def f_ref01_Reader_Num (B : World) (ro : AH) (a0 : Option Addr) (σ : AH) (Q : Int → AH → Prop) : Prop :=
 ∃ p7_1 : Addr, a0 = some p7_1 ∧
 ∃ (x9_2 : Int), acell ro σ (p7_1.add 2) = some (.int .i64 x9_2) ∧
 if ¬ (x9_2 = 0) then
  Q 0 σ
 else
 ∃ p13_3 : Addr, a0 = some p13_3 ∧
 ∃ p17_4 : Addr, a0 = some p17_4 ∧
 ∃ (x15_5 : Sl), acell ro σ p13_3 = some (Sl.v x15_5) ∧
 ∃ (x19_6 : Int), acell ro σ (p17_4.add 1) = some (.int .i64 x19_6) ∧
 c_ref01_Number B ro x15_5 x19_6 σ fun x20_7 x20_8 x20_9 σ =>
 if ¬ (x20_9 = 0) then
  ∃ p28_10 : Addr, a0 = some p28_10 ∧
  stN (p28_10.add 2) (fun σ =>
   Q 0 σ) [.int .i64 x20_9] 0 σ
 else
 ∃ p32_11 : Addr, a0 = some p32_11 ∧
 stN (p32_11.add 1) (fun σ =>
  Q x20_7 σ) [.int .i64 x20_8] 0 σ

set_option maxRecDepth 100000 in
set_option maxHeartbeats 4000000 in
theorem ref01_Reader_Num_ok {B : World} {ro : AH} {a0 : Option Addr} {σ : AH} {Q : Int → AH → Prop} (h : Sep ro σ → f_ref01_Reader_Num B ro a0 σ Q) : c_ref01_Reader_Num B ro a0 σ Q := by
  refine ACalls.of_sep fun hsep => ?_
  replace h := h hsep
  refine ACalls.of_body (args := [.pointer a0]) Tryz.func83 rfl (by rw [Tryz.ntmps83]; simp) ?_
  rw [Tryz.ntmps83]
  unfold f_ref01_Reader_Num at h
  refine AW.seq ?_
  refine AW.reg ?_
  refine Lp (V_asg rfl rfl) rfl rfl ?_
  refine Lnil ?_
  refine thenN ?_
  refine AW.seq ?_
  refine AW.seq ?_
  refine AW.reg ?_
  refine Lp (V_move rfl rfl) rfl rfl ?_
  obtain ⟨p7_1, hc, h⟩ := h
  refine Lp (V_nil rfl (by rw [← hc]; rfl)) rfl rfl ?_
  refine Lp (V_fld rfl Tryz.underlying154 rfl ty3 (by decide) rfl) rfl rfl ?_
  obtain ⟨x9_2, hc, h⟩ := h
  refine Ls rfl rfl (X_ld rfl Tryz.underlying3 rfl rfl hc ?_)
  refine Lp (V_neq rfl rfl rfl) rfl rfl ?_
  refine Lnil ?_
  refine thenN ?_
  refine AW.iff rfl (bnot_iff decide_eq_true_iff) h (fun h => ?_) (fun h => ?_)
  · refine AW.seq ?_
    refine AW.reg ?_
    refine Lp (V_asg rfl rfl) rfl rfl ?_
    refine Lnil ?_
    refine thenN ?_
    refine AW.ret ?_
    refine thenR ?_
    exact bR1 Tryz.results83 rfl ⟨_, rfl, h⟩
  refine AW.skip ?_
  refine thenN ?_
  refine AW.seq ?_
  refine AW.drawn0 (fun i => ([0, 0, 0, 3, 0, 0, 0, 3, 2, 0, 0, 0, 0, 0, 0, 0] : List Nat).getD i 2) [] [0, 1, 2, 4, 5, 6, 3, 7, 8, 9, 10, 11, 12, 13, 14, 15] Tryz.mixed (by decide +kernel) ?_
  refine Dp rfl rfl rfl rfl (V_move rfl rfl) ?_
  obtain ⟨p13_3, hc, h⟩ := h
  refine Dp rfl rfl rfl rfl (V_nil rfl (by rw [← hc]; rfl)) ?_
  refine Dp rfl rfl rfl rfl (V_fld rfl Tryz.underlying154 rfl ty30 (by decide) rfl) ?_
  refine Dp rfl rfl rfl rfl (V_move rfl rfl) ?_
  obtain ⟨p17_4, hc, h⟩ := h
  refine Dp rfl rfl rfl rfl (V_nil rfl (by rw [← hc]; rfl)) ?_
  refine Dp rfl rfl rfl rfl (V_fld rfl Tryz.underlying154 rfl ty3 (by decide) rfl) ?_
  obtain ⟨x15_5, hc, h⟩ := h
  refine Dr rfl rfl rfl rfl (R_ld rfl Tryz.underlying30 rfl rfl hc) ?_
  obtain ⟨x19_6, hc, h⟩ := h
  refine Dr rfl rfl rfl rfl (R_ld rfl Tryz.underlying3 rfl rfl hc) ?_
  refine Dg rfl rfl rfl rfl (X_call rfl Tryz.func120 rfl rfl rfl (ACalls.mono h ?_))
  rintro v σ ⟨x20_7, x20_8, x20_9, rfl, h⟩
  refine Dp rfl rfl rfl rfl (V_move rfl rfl) ?_
  refine Dp rfl rfl rfl rfl (V_ext rfl rfl rfl) ?_
  refine Dp rfl rfl rfl rfl (V_ext rfl rfl rfl) ?_
  refine Dp rfl rfl rfl rfl (V_ext rfl rfl rfl) ?_
  refine Dp rfl rfl rfl rfl (V_asg rfl rfl) ?_
  refine Dp rfl rfl rfl rfl (V_asg rfl rfl) ?_
  refine Dp rfl rfl rfl rfl (V_asg rfl rfl) ?_
  refine Dend ?_
  refine thenN ?_
  refine AW.seq ?_
  refine AW.seq ?_
  refine AW.reg ?_
  refine Lp (V_move rfl rfl) rfl rfl ?_
  refine Lp (V_neq rfl rfl rfl) rfl rfl ?_
  refine Lnil ?_
  refine thenN ?_
  refine AW.iff rfl (bnot_iff decide_eq_true_iff) h (fun h => ?_) (fun h => ?_)
  · refine AW.seq ?_
    refine AW.reg ?_
    refine Lp (V_move rfl rfl) rfl rfl ?_
    refine Lp (V_move rfl rfl) rfl rfl ?_
    obtain ⟨p28_10, hc, h⟩ := h
    refine Lp (V_nil rfl (by rw [← hc]; rfl)) rfl rfl ?_
    refine Lp (V_fld rfl Tryz.underlying154 rfl ty3 (by decide) rfl) rfl rfl ?_
    refine Ls rfl rfl (X_st rfl ty3 rfl rfl rfl rfl (stN_mono h fun σ h => ?_))
    refine Lnil ?_
    refine thenN ?_
    refine AW.seq ?_
    refine AW.reg ?_
    refine Lp (V_asg rfl rfl) rfl rfl ?_
    refine Lnil ?_
    refine thenN ?_
    refine AW.ret ?_
    refine thenR ?_
    exact bR1 Tryz.results83 rfl ⟨_, rfl, h⟩
  refine AW.skip ?_
  refine thenN ?_
  refine AW.seq ?_
  refine AW.reg ?_
  refine Lp (V_move rfl rfl) rfl rfl ?_
  refine Lp (V_move rfl rfl) rfl rfl ?_
  obtain ⟨p32_11, hc, h⟩ := h
  refine Lp (V_nil rfl (by rw [← hc]; rfl)) rfl rfl ?_
  refine Lp (V_fld rfl Tryz.underlying154 rfl ty3 (by decide) rfl) rfl rfl ?_
  refine Ls rfl rfl (X_st rfl ty3 rfl rfl rfl rfl (stN_mono h fun σ h => ?_))
  refine Lnil ?_
  refine thenN ?_
  refine AW.seq ?_
  refine AW.reg ?_
  refine Lp (V_move rfl rfl) rfl rfl ?_
  refine Lp (V_asg rfl rfl) rfl rfl ?_
  refine Lnil ?_
  refine thenN ?_
  refine AW.ret ?_
  exact bR1 Tryz.results83 rfl ⟨_, rfl, h⟩

def f_ref01_Blob (B : World) (ro : AH) (a0 : Sl) (σ : AH) (Q : Sl → AH → Prop) : Prop :=
 c_ref01_Put B ro (a0.len : Int) σ fun x5_1 σ =>
 nw ro σ (.cells #[Sl.v x5_1, Sl.v a0] 30) fun x7_2 σ =>
 c_ref01_Join B ro (⟨some ⟨x7_2, 0, none⟩, 2, 2⟩ : Sl) σ fun x8_3 σ =>
 Q x8_3 σ

set_option maxRecDepth 100000 in
set_option maxHeartbeats 4000000 in
theorem ref01_Blob_ok {B : World} {ro : AH} {a0 : Sl} {σ : AH} {Q : Sl → AH → Prop} (h : Sep ro σ → f_ref01_Blob B ro a0 σ Q) : c_ref01_Blob B ro a0 σ Q := by
  refine ACalls.of_sep fun hsep => ?_
  replace h := h hsep
  refine ACalls.of_body (args := [Sl.v a0]) Tryz.func103 rfl (by rw [Tryz.ntmps103]; simp) ?_
  rw [Tryz.ntmps103]
  unfold f_ref01_Blob at h
  refine AW.seq ?_
  refine AW.reg ?_
  refine Lp (V_asg rfl rfl) rfl rfl ?_
  refine Lnil ?_
  refine thenN ?_
  refine AW.seq ?_
  refine AW.reg ?_
  refine Lp (V_move rfl rfl) rfl rfl ?_
  refine Lp (V_lenL rfl rfl Tryz.underlying30 rfl rfl) rfl rfl ?_
  refine Ls rfl rfl (X_call rfl Tryz.func104 rfl rfl rfl (ACalls.mono h ?_))
  rintro v σ ⟨x5_1, rfl, h⟩
  refine Lp (V_move rfl rfl) rfl rfl ?_
  refine Ls rfl rfl (X_new (A_bsl (vs := [(0, Sl.v x5_1), (1, Sl.v a0)]) (cs := #[Sl.v x5_1, Sl.v a0]) rfl Tryz.underlying208 ty30 (by decide) rfl rfl) fun x7_2 g1 g2 => ?_)
  replace h := h x7_2 g1 g2
  refine Ls rfl rfl (X_call rfl Tryz.func72 rfl rfl rfl (ACalls.mono h ?_))
  rintro v σ ⟨x8_3, rfl, h⟩
  refine Lp (V_asg rfl rfl) rfl rfl ?_
  refine Lnil ?_
  refine thenN ?_
  refine AW.ret ?_
  exact bR1 Tryz.results103 rfl ⟨_, rfl, h⟩

def j2_ref01_Put (B : World) (ro : AH) (Q : Sl → AH → Prop) (x0_3 : Int) (x3_4 : Sl) (σ : AH) : Prop :=
 nw ro σ (.cells #[.int .u8 (IntKind.u8.wrap x0_3)] 5) fun x19_5 σ =>
 awp Tryz.prog ro (Builtin.append_ #[30, 30] 30 #[Sl.v x3_4, Sl.v (⟨some ⟨x19_5, 0, none⟩, 1, 1⟩ : Sl)]) (fun v σ => ∃ (x20_6 : Sl), v = Sl.v x20_6 ∧
  Q x20_6 σ) σ

def l7_ref01_Put (B : World) (ro : AH) (Q : Sl → AH → Prop) : (Int × Sl) → AH → ((Int × Sl) → AH → Prop) → Prop := fun ⟨x0_8, x3_9⟩ σ Y7 =>
 if 128 ≤ x0_8 then
  nw ro σ (.cells #[.int .u8 (IntKind.u8.wrap (IntKind.i64.wrap (128 + (Int.tmod x0_8 128))))] 5) fun x12_10 σ =>
  awp Tryz.prog ro (Builtin.append_ #[30, 30] 30 #[Sl.v x3_9, Sl.v (⟨some ⟨x12_10, 0, none⟩, 1, 1⟩ : Sl)]) (fun v σ => ∃ (x13_11 : Sl), v = Sl.v x13_11 ∧
   Y7 (IntKind.i64.wrap (Int.tdiv x0_8 128), x13_11) σ) σ
 else
 j2_ref01_Put B ro Q x0_8 x3_9 σ

def f_ref01_Put (B : World) (ro : AH) (a0 : Int) (σ : AH) (Q : Sl → AH → Prop) : Prop :=
 nw ro σ (.cells #[] 5) fun x4_1 σ =>
 lfpD (l7_ref01_Put B ro Q ) (a0, (⟨some ⟨x4_1, 0, none⟩, 0, 0⟩ : Sl)) σ

set_option maxRecDepth 100000 in
set_option maxHeartbeats 4000000 in
theorem ref01_Put_ok {B : World} {ro : AH} {a0 : Int} {σ : AH} {Q : Sl → AH → Prop} (h : Sep ro σ → f_ref01_Put B ro a0 σ Q) : c_ref01_Put B ro a0 σ Q := by
  refine ACalls.of_sep fun hsep => ?_
  replace h := h hsep
  refine ACalls.of_body (args := [.int .i64 a0]) Tryz.func104 rfl (by rw [Tryz.ntmps104]; simp) ?_
  rw [Tryz.ntmps104]
  unfold f_ref01_Put at h
  refine AW.seq ?_
  refine AW.reg ?_
  refine Lp (V_asg rfl rfl) rfl rfl ?_
  refine Lnil ?_
  refine thenN ?_
  refine AW.seq ?_
  refine AW.reg ?_
  refine Ls rfl rfl (X_new (A_bsl (vs := []) (cs := #[]) rfl Tryz.underlying30 ty5 (by decide) rfl rfl) fun x4_1 g1 g2 => ?_)
  replace h := h x4_1 g1 g2
  refine Lp (V_asg rfl rfl) rfl rfl ?_
  refine Lnil ?_
  refine thenN ?_
  refine AW.seqJ (fun fr σ => ∃ (x0_3 : Int) (x3_4 : Sl), FrLe [(0, .int .i64 x0_3), (3, Sl.v x3_4)] fr ∧ j2_ref01_Put B ro Q x0_3 x3_4 σ) ?_ ?_
  · rintro fr σ ⟨x0_3, x3_4, hl, h⟩
    refine AW.weaken ?_ hl (HLe.refl _)
    unfold j2_ref01_Put at h
    refine AW.seq ?_
    refine AW.reg ?_
    refine Lp (V_move rfl rfl) rfl rfl ?_
    refine Lp (V_move rfl rfl) rfl rfl ?_
    refine Lp (V_cvt rfl rfl Tryz.underlying3 Tryz.underlying5) rfl rfl ?_
    refine Ls rfl rfl (X_new (A_bsl (vs := [(0, .int .u8 (IntKind.u8.wrap x0_3))]) (cs := #[.int .u8 (IntKind.u8.wrap x0_3)]) rfl Tryz.underlying30 ty5 (by decide) rfl rfl) fun x19_5 g1 g2 => ?_)
    replace h := h x19_5 g1 g2
    refine Ls rfl rfl (X_bi (s := Builtin.append_ #[30, 30] 30 #[Sl.v x3_4, Sl.v (⟨some ⟨x19_5, 0, none⟩, 1, 1⟩ : Sl)]) rfl rfl (fun _ => rfl) (awp_mono _ h ?_))
    rintro v σ ⟨x20_6, rfl, h⟩
    refine Lp (V_asg rfl rfl) rfl rfl ?_
    refine Lnil ?_
    refine thenN ?_
    refine AW.ret ?_
    exact bR1 Tryz.results104 rfl ⟨_, rfl, h⟩
  refine AW.block ?_
  refine ARound.loop (fr' := [(0, .int .i64 a0), (3, Sl.v (⟨some ⟨x4_1, 0, none⟩, 0, 0⟩ : Sl))]) ?_ (FrLe.cons rfl (FrLe.cons rfl (FrLe.nil _)))
  refine h (fun ⟨x0_8, x3_9⟩ σ => ARound _ _ _ _ _ _ [(0, .int .i64 x0_8), (3, Sl.v x3_9)] σ) ?_
  rintro ⟨x0_8, x3_9⟩ σ Y7 hY7 h
  show AW _ _ _ _ _ _ _ _
  unfold l7_ref01_Put at h
  dsimp only at h
  refine AW.seq ?_
  refine AW.seq ?_
  refine AW.reg ?_
  refine Lp (V_move rfl rfl) rfl rfl ?_
  refine Lp (V_geq rfl rfl rfl) rfl rfl ?_
  refine Lnil ?_
  refine thenN ?_
  refine AW.iff rfl decide_eq_true_iff h (fun h => ?_) (fun h => ?_)
  rotate_left
  · refine AW.exit ?_
    refine thenE ?_
    refine thenE ?_
    refine blockE ?_
    refine thenN ?_
    exact ⟨_, _, (FrLe.cons rfl (FrLe.cons rfl (FrLe.nil _))), h⟩
  refine AW.skip ?_
  refine thenN ?_
  refine AW.block ?_
  refine AW.seq ?_
  refine AW.reg ?_
  refine Lp (V_move rfl rfl) rfl rfl ?_
  refine Lp (V_move rfl rfl) rfl rfl ?_
  refine Lp (V_rem rfl rfl rfl (by decide)) rfl rfl ?_
  refine Lp (V_add rfl rfl rfl) rfl rfl ?_
  refine Lp (V_cvt rfl rfl Tryz.underlying3 Tryz.underlying5) rfl rfl ?_
  refine Ls rfl rfl (X_new (A_bsl (vs := [(0, .int .u8 (IntKind.u8.wrap (IntKind.i64.wrap (128 + (Int.tmod x0_8 128)))))]) (cs := #[.int .u8 (IntKind.u8.wrap (IntKind.i64.wrap (128 + (Int.tmod x0_8 128))))]) rfl Tryz.underlying30 ty5 (by decide) rfl rfl) fun x12_10 g1 g2 => ?_)
  replace h := h x12_10 g1 g2
  refine Ls rfl rfl (X_bi (s := Builtin.append_ #[30, 30] 30 #[Sl.v x3_9, Sl.v (⟨some ⟨x12_10, 0, none⟩, 1, 1⟩ : Sl)]) rfl rfl (fun _ => rfl) (awp_mono _ h ?_))
  rintro v σ ⟨x13_11, rfl, h⟩
  refine Lp (V_asg rfl rfl) rfl rfl ?_
  refine Lnil ?_
  refine thenN ?_
  refine AW.reg ?_
  refine Lp (V_move rfl rfl) rfl rfl ?_
  refine Lp (V_quo rfl rfl rfl (by decide)) rfl rfl ?_
  refine Lp (V_asg rfl rfl) rfl rfl ?_
  refine Lnil ?_
  refine blockN ?_
  refine thenN ?_
  refine ARound.head (fr' := [(0, .int .i64 (IntKind.i64.wrap (Int.tdiv x0_8 128))), (3, Sl.v x13_11)]) ?_ (FrLe.cons rfl (FrLe.cons rfl (FrLe.nil _)))
  exact hY7 _ _ h

def j7_ref01_Number (B : World) (ro : AH) (a1 : Int) (x7_2 : Int) (Q : Int → Int → Int → AH → Prop) (x9_8 : Int) (σ : AH) : Prop :=
 Q x9_8 (IntKind.i64.wrap ((IntKind.i64.wrap (a1 + x7_2)) + 1)) 0 σ

def l9_ref01_Number (B : World) (ro : AH) (a0 : Sl) (a1 : Int) (x7_2 : Int) (Q : Int → Int → Int → AH → Prop) : (Int × Int) → AH → ((Int × Int) → AH → Prop) → Prop := fun ⟨x9_10, x10_11⟩ σ Y9 =>
 if 0 ≤ x10_11 then
  ∃ p90_12 : Addr, a0.a = some p90_12 ∧ (0 : Int) ≤ (IntKind.i64.wrap (a1 + x10_11)) ∧ (IntKind.i64.wrap (a1 + x10_11)) < (a0.len : Int) ∧
  ∃ (x91_13 : Int), acell ro σ (p90_12.add (Int.toNat (IntKind.i64.wrap (a1 + x10_11)) * 1)) = some (.int .u8 x91_13) ∧
  Y9 (IntKind.i64.wrap ((IntKind.i64.wrap (x9_10 * 128)) + (Int.tmod (IntKind.i64.wrap x91_13) 128)), IntKind.i64.wrap (x10_11 - 1)) σ
 else
 j7_ref01_Number B ro a1 x7_2 Q x9_10 σ

def j5_ref01_Number (B : World) (ro : AH) (a0 : Sl) (a1 : Int) (x7_2 : Int) (Q : Int → Int → Int → AH → Prop) (x78_6 : Bool) (σ : AH) : Prop :=
 if x78_6 = true then
  Q 0 0 13 σ
 else
 lfpD (l9_ref01_Number B ro a0 a1 x7_2 Q ) (0, x7_2) σ

def j14_ref01_Number (B : World) (ro : AH) (a0 : Sl) (a1 : Int) (x7_2 : Int) (x66_4 : Bool) (Q : Int → Int → Int → AH → Prop) (x77_15 : Bool) (σ : AH) : Prop :=
 j5_ref01_Number B ro a0 a1 x7_2 Q x77_15 σ

def j3_ref01_Number (B : World) (ro : AH) (a0 : Sl) (a1 : Int) (x7_2 : Int) (Q : Int → Int → Int → AH → Prop) (x66_4 : Bool) (σ : AH) : Prop :=
 if x66_4 = true then
  j5_ref01_Number B ro a0 a1 x7_2 Q true σ
 else
 if x7_2 = 8 then
  ∃ p74_16 : Addr, a0.a = some p74_16 ∧ (0 : Int) ≤ (IntKind.i64.wrap (a1 + 8)) ∧ (IntKind.i64.wrap (a1 + 8)) < (a0.len : Int) ∧
  ∃ (x75_17 : Int), acell ro σ (p74_16.add (Int.toNat (IntKind.i64.wrap (a1 + 8)) * 1)) = some (.int .u8 x75_17) ∧
  j14_ref01_Number B ro a0 a1 x7_2 x66_4 Q (decide (63 < x75_17)) σ
 else
 j14_ref01_Number B ro a0 a1 x7_2 x66_4 Q false σ

def j18_ref01_Number (B : World) (ro : AH) (a0 : Sl) (a1 : Int) (x7_2 : Int) (Q : Int → Int → Int → AH → Prop) (x65_19 : Bool) (σ : AH) : Prop :=
 j3_ref01_Number B ro a0 a1 x7_2 Q x65_19 σ

def j1_ref01_Number (B : World) (ro : AH) (a0 : Sl) (a1 : Int) (Q : Int → Int → Int → AH → Prop) (x7_2 : Int) (σ : AH) : Prop :=
 if (x7_2 < 0) ∧ ((IntKind.i64.wrap ((a0.len : Int) - a1)) < 9) then
  Q 0 0 12 σ
 else
 if x7_2 < 0 then
  j3_ref01_Number B ro a0 a1 x7_2 Q true σ
 else
 if 0 < x7_2 then
  ∃ p62_20 : Addr, a0.a = some p62_20 ∧ (0 : Int) ≤ (IntKind.i64.wrap (a1 + x7_2)) ∧ (IntKind.i64.wrap (a1 + x7_2)) < (a0.len : Int) ∧
  ∃ (x63_21 : Int), acell ro σ (p62_20.add (Int.toNat (IntKind.i64.wrap (a1 + x7_2)) * 1)) = some (.int .u8 x63_21) ∧
  j18_ref01_Number B ro a0 a1 x7_2 Q (decide (x63_21 = 0)) σ
 else
 j18_ref01_Number B ro a0 a1 x7_2 Q false σ

def j25_ref01_Number (B : World) (ro : AH) (a0 : Sl) (a1 : Int) (x8_24 : Int) (Q : Int → Int → Int → AH → Prop) (Y22 : (Int × Int) → AH → Prop) (x7_26 : Int) (σ : AH) : Prop :=
 Y22 (x7_26, IntKind.i64.wrap (x8_24 + 1)) σ

def l22_ref01_Number (B : World) (ro : AH) (a0 : Sl) (a1 : Int) (Q : Int → Int → Int → AH → Prop) : (Int × Int) → AH → ((Int × Int) → AH → Prop) → Prop := fun ⟨x7_23, x8_24⟩ σ Y22 =>
 if ((x8_24 < 9) ∧ ((IntKind.i64.wrap (a1 + x8_24)) < (a0.len : Int))) ∧ (x7_23 < 0) then
  ∃ p39_27 : Addr, a0.a = some p39_27 ∧ (0 : Int) ≤ (IntKind.i64.wrap (a1 + x8_24)) ∧ (IntKind.i64.wrap (a1 + x8_24)) < (a0.len : Int) ∧
  ∃ (x40_28 : Int), acell ro σ (p39_27.add (Int.toNat (IntKind.i64.wrap (a1 + x8_24)) * 1)) = some (.int .u8 x40_28) ∧
  if x40_28 < 128 then
   j25_ref01_Number B ro a0 a1 x8_24 Q Y22 x8_24 σ
  else
  j25_ref01_Number B ro a0 a1 x8_24 Q Y22 x7_23 σ
 else
 j1_ref01_Number B ro a0 a1 Q x7_23 σ

def f_ref01_Number (B : World) (ro : AH) (a0 : Sl) (a1 : Int) (σ : AH) (Q : Int → Int → Int → AH → Prop) : Prop :=
 if (a1 < 0) ∨ ((a0.len : Int) < a1) then
  Q 0 0 11 σ
 else
 lfpD (l22_ref01_Number B ro a0 a1 Q ) ((-1), 0) σ

set_option maxRecDepth 100000 in
set_option maxHeartbeats 4000000 in
theorem ref01_Number_ok {B : World} {ro : AH} {a0 : Sl} {a1 : Int} {σ : AH} {Q : Int → Int → Int → AH → Prop} (h : Sep ro σ → f_ref01_Number B ro a0 a1 σ Q) : c_ref01_Number B ro a0 a1 σ Q := by
  refine ACalls.of_sep fun hsep => ?_
  replace h := h hsep
  refine ACalls.of_body (args := [Sl.v a0, .int .i64 a1]) Tryz.func120 rfl (by rw [Tryz.ntmps120]; simp) ?_
  rw [Tryz.ntmps120]
  unfold f_ref01_Number at h
  refine AW.seq ?_
  refine AW.reg ?_
  refine Lp (V_asg rfl rfl) rfl rfl ?_
  refine Lp (V_asg rfl rfl) rfl rfl ?_
  refine Lp (V_asg rfl rfl) rfl rfl ?_
  refine Lnil ?_
  refine thenN ?_
  refine AW.seq ?_
  refine AW.seq ?_
  refine AW.reg ?_
  refine Lp (V_move rfl rfl) rfl rfl ?_
  refine Lp (V_lss rfl rfl rfl) rfl rfl ?_
  refine Lp (V_move rfl rfl) rfl rfl ?_
  refine Lsplit 5 (decide (a1 < 0)) [(0, Sl.v a0), (1, .int .i64 a1), (18, .bool ((decide (a1 < 0)) || (decide ((a0.len : Int) < a1))))] ?_ ?_ ?_
  · intro e2 hk2
    refine Ln rfl rfl rfl rfl (.inl (by rw [e2]; rfl)) ?_
    refine Ln rfl rfl rfl rfl (.inl (by rw [e2]; rfl)) ?_
    refine Ln rfl rfl rfl rfl (.inl (by rw [e2]; rfl)) ?_
    refine Ln rfl rfl rfl rfl (.inl (by rw [e2]; rfl)) ?_
    refine Lp (V_pickT rfl (evb e2) rfl) rfl rfl ?_
    exact hk2 _ (FrLe.cons rfl (FrLe.cons rfl (FrLe.cons (by rw [e2]; rfl) (FrLe.nil _))))
  · intro e2 hk2
    refine Lypb (V_move rfl rfl) rfl rfl rfl rfl e2 ?_
    refine Lypb (V_move rfl rfl) rfl rfl rfl rfl e2 ?_
    refine Lypb (V_lenL rfl rfl Tryz.underlying30 rfl rfl) rfl rfl rfl rfl e2 ?_
    refine Lypb (V_gtr rfl rfl rfl) rfl rfl rfl rfl e2 ?_
    refine Lp (V_pickF rfl (evb e2) rfl) rfl rfl ?_
    exact hk2 _ (FrLe.cons rfl (FrLe.cons rfl (FrLe.cons (by rw [e2]; rfl) (FrLe.nil _))))
  intro fr hl
  refine Lfr hl ?_
  refine Lnil ?_
  refine thenN ?_
  refine AW.iff rfl (bor_iff decide_eq_true_iff decide_eq_true_iff) h (fun h => ?_) (fun h => ?_)
  · refine AW.seq ?_
    refine AW.reg ?_
    refine Lp (V_asg rfl rfl) rfl rfl ?_
    refine Lp (V_asg rfl rfl) rfl rfl ?_
    refine Lp (V_asg rfl rfl) rfl rfl ?_
    refine Lnil ?_
    refine thenN ?_
    refine AW.ret ?_
    refine thenR ?_
    exact bR3 Tryz.results120 rfl rfl rfl ⟨_, _, _, rfl, h⟩
  refine AW.skip ?_
  refine thenN ?_
  refine AW.seq ?_
  refine AW.reg ?_
  refine Lp (V_asg rfl rfl) rfl rfl ?_
  refine Lnil ?_
  refine thenN ?_
  refine AW.seqJ (fun fr σ => ∃ (x7_2 : Int), FrLe [(0, Sl.v a0), (1, .int .i64 a1), (7, .int .i64 x7_2)] fr ∧ j1_ref01_Number B ro a0 a1 Q x7_2 σ) ?_ ?_
  rotate_left
  · refine AW.seq ?_
    refine AW.reg ?_
    refine Lp (V_asg rfl rfl) rfl rfl ?_
    refine Lnil ?_
    refine thenN ?_
    refine AW.block ?_
    refine ARound.loop (fr' := [(0, Sl.v a0), (1, .int .i64 a1), (7, .int .i64 (-1)), (8, .int .i64 0)]) ?_ (FrLe.cons rfl (FrLe.cons rfl (FrLe.cons rfl (FrLe.cons rfl (FrLe.nil _)))))
    refine h (fun ⟨x7_23, x8_24⟩ σ => ARound _ _ _ _ _ _ [(0, Sl.v a0), (1, .int .i64 a1), (7, .int .i64 x7_23), (8, .int .i64 x8_24)] σ) ?_
    rintro ⟨x7_23, x8_24⟩ σ Y22 hY22 h
    show AW _ _ _ _ _ _ _ _
    unfold l22_ref01_Number at h
    dsimp only at h
    refine AW.seq ?_
    refine AW.seq ?_
    refine AW.reg ?_
    refine Lp (V_move rfl rfl) rfl rfl ?_
    refine Lp (V_lss rfl rfl rfl) rfl rfl ?_
    refine Lp (V_move rfl rfl) rfl rfl ?_
    refine Lsplit 7 (decide (x8_24 < 9)) [(0, Sl.v a0), (1, .int .i64 a1), (7, .int .i64 x7_23), (8, .int .i64 x8_24), (28, .bool ((decide (x8_24 < 9)) && (decide ((IntKind.i64.wrap (a1 + x8_24)) < (a0.len : Int)))))] ?_ ?_ ?_
    · intro e2 hk2
      refine Lypb (V_move rfl rfl) rfl rfl rfl rfl e2 ?_
      refine Lypb (V_move rfl rfl) rfl rfl rfl rfl e2 ?_
      refine Lypb (V_add rfl rfl rfl) rfl rfl rfl rfl e2 ?_
      refine Lypb (V_move rfl rfl) rfl rfl rfl rfl e2 ?_
      refine Lypb (V_lenL rfl rfl Tryz.underlying30 rfl rfl) rfl rfl rfl rfl e2 ?_
      refine Lypb (V_lss rfl rfl rfl) rfl rfl rfl rfl e2 ?_
      refine Lp (V_pickT rfl (evb e2) rfl) rfl rfl ?_
      exact hk2 _ (FrLe.cons rfl (FrLe.cons rfl (FrLe.cons rfl (FrLe.cons rfl (FrLe.cons (by rw [e2]; rfl) (FrLe.nil _))))))
    · intro e2 hk2
      refine Ln rfl rfl rfl rfl (.inl (by rw [e2]; rfl)) ?_
      refine Ln rfl rfl rfl rfl (.inl (by rw [e2]; rfl)) ?_
      refine Ln rfl rfl rfl rfl (.inl (by rw [e2]; rfl)) ?_
      refine Ln rfl rfl rfl rfl (.inl (by rw [e2]; rfl)) ?_
      refine Ln rfl rfl rfl rfl (.inl (by rw [e2]; rfl)) ?_
      refine Ln rfl rfl rfl rfl (.inl (by rw [e2]; rfl)) ?_
      refine Lp (V_pickF rfl (evb e2) rfl) rfl rfl ?_
      exact hk2 _ (FrLe.cons rfl (FrLe.cons rfl (FrLe.cons rfl (FrLe.cons rfl (FrLe.cons (by rw [e2]; rfl) (FrLe.nil _))))))
    intro fr hl
    refine Lfr hl ?_
    refine Lp (V_move rfl rfl) rfl rfl ?_
    refine Lsplit 3 ((decide (x8_24 < 9)) && (decide ((IntKind.i64.wrap (a1 + x8_24)) < (a0.len : Int)))) [(0, Sl.v a0), (1, .int .i64 a1), (7, .int .i64 x7_23), (8, .int .i64 x8_24), (32, .bool (((decide (x8_24 < 9)) && (decide ((IntKind.i64.wrap (a1 + x8_24)) < (a0.len : Int)))) && (decide (x7_23 < 0))))] ?_ ?_ ?_
    · intro e10 hk10
      refine Lypb (V_move rfl rfl) rfl rfl rfl rfl e10 ?_
      refine Lypb (V_lss rfl rfl rfl) rfl rfl rfl rfl e10 ?_
      refine Lp (V_pickT rfl (evb e10) rfl) rfl rfl ?_
      exact hk10 _ (FrLe.cons rfl (FrLe.cons rfl (FrLe.cons rfl (FrLe.cons rfl (FrLe.cons (by rw [e10]; rfl) (FrLe.nil _))))))
    · intro e10 hk10
      refine Ln rfl rfl rfl rfl (.inl (by rw [e10]; rfl)) ?_
      refine Ln rfl rfl rfl rfl (.inl (by rw [e10]; rfl)) ?_
      refine Lp (V_pickF rfl (evb e10) rfl) rfl rfl ?_
      exact hk10 _ (FrLe.cons rfl (FrLe.cons rfl (FrLe.cons rfl (FrLe.cons rfl (FrLe.cons (by rw [e10]; rfl) (FrLe.nil _))))))
    intro fr hl
    refine Lfr hl ?_
    refine Lnil ?_
    refine thenN ?_
    refine AW.iff rfl (band_iff (band_iff decide_eq_true_iff decide_eq_true_iff) decide_eq_true_iff) h (fun h => ?_) (fun h => ?_)
    rotate_left
    · refine AW.exit ?_
      refine thenE ?_
      refine thenE ?_
      refine blockE ?_
      refine thenN ?_
      exact ⟨_, (FrLe.cons rfl (FrLe.cons rfl (FrLe.cons rfl (FrLe.nil _)))), h⟩
    refine AW.skip ?_
    refine thenN ?_
    refine AW.seqJ (fun fr σ => ∃ (x7_26 : Int), FrLe [(0, Sl.v a0), (1, .int .i64 a1), (8, .int .i64 x8_24), (7, .int .i64 x7_26)] fr ∧ j25_ref01_Number B ro a0 a1 x8_24 Q Y22 x7_26 σ) ?_ ?_
    · rintro fr σ ⟨x7_26, hl, h⟩
      refine AW.weaken ?_ hl (HLe.refl _)
      unfold j25_ref01_Number at h
      refine AW.reg ?_
      refine Lp (V_move rfl rfl) rfl rfl ?_
      refine Lp (V_add rfl rfl rfl) rfl rfl ?_
      refine Lp (V_asg rfl rfl) rfl rfl ?_
      refine Lnil ?_
      refine thenN ?_
      refine ARound.head (fr' := [(0, Sl.v a0), (1, .int .i64 a1), (7, .int .i64 x7_26), (8, .int .i64 (IntKind.i64.wrap (x8_24 + 1)))]) ?_ (FrLe.cons rfl (FrLe.cons rfl (FrLe.cons rfl (FrLe.cons rfl (FrLe.nil _)))))
      exact hY22 _ _ h
    refine AW.block ?_
    refine AW.seq ?_
    refine AW.reg ?_
    refine Lp (V_move rfl rfl) rfl rfl ?_
    refine Lp (V_move rfl rfl) rfl rfl ?_
    refine Lp (V_move rfl rfl) rfl rfl ?_
    refine Lp (V_add rfl rfl rfl) rfl rfl ?_
    obtain ⟨p39_27, ha, h0, h1, h⟩ := h
    refine Lp (V_ixA rfl Tryz.underlying30 ty5 (ixL rfl ha) rfl h0 h1) rfl rfl ?_
    obtain ⟨x40_28, hc, h⟩ := h
    refine Ls rfl rfl (X_ld rfl Tryz.underlying5 rfl rfl hc ?_)
    refine Lp (V_lss rfl rfl rfl) rfl rfl ?_
    refine Lnil ?_
    refine thenN ?_
    refine AW.iff rfl decide_eq_true_iff h (fun h => ?_) (fun h => ?_)
    rotate_left
    · refine AW.skip ?_
      refine blockN ?_
      refine thenN ?_
      exact ⟨_, (FrLe.cons rfl (FrLe.cons rfl (FrLe.cons rfl (FrLe.cons rfl (FrLe.nil _))))), h⟩
    refine AW.reg ?_
    refine Lp (V_move rfl rfl) rfl rfl ?_
    refine Lp (V_asg rfl rfl) rfl rfl ?_
    refine Lnil ?_
    refine blockN ?_
    refine thenN ?_
    exact ⟨_, (FrLe.cons rfl (FrLe.cons rfl (FrLe.cons rfl (FrLe.cons rfl (FrLe.nil _))))), h⟩
  rintro fr σ ⟨x7_2, hl, h⟩
  refine AW.weaken ?_ hl (HLe.refl _)
  unfold j1_ref01_Number at h
  refine AW.seq ?_
  refine AW.seq ?_
  refine AW.reg ?_
  refine Lp (V_move rfl rfl) rfl rfl ?_
  refine Lp (V_lss rfl rfl rfl) rfl rfl ?_
  refine Lp (V_move rfl rfl) rfl rfl ?_
  refine Lsplit 6 (decide (x7_2 < 0)) [(0, Sl.v a0), (1, .int .i64 a1), (7, .int .i64 x7_2), (51, .bool ((decide (x7_2 < 0)) && (decide ((IntKind.i64.wrap ((a0.len : Int) - a1)) < 9))))] ?_ ?_ ?_
  · intro e2 hk2
    refine Lypb (V_move rfl rfl) rfl rfl rfl rfl e2 ?_
    refine Lypb (V_lenL rfl rfl Tryz.underlying30 rfl rfl) rfl rfl rfl rfl e2 ?_
    refine Lypb (V_move rfl rfl) rfl rfl rfl rfl e2 ?_
    refine Lypb (V_sub rfl rfl rfl) rfl rfl rfl rfl e2 ?_
    refine Lypb (V_lss rfl rfl rfl) rfl rfl rfl rfl e2 ?_
    refine Lp (V_pickT rfl (evb e2) rfl) rfl rfl ?_
    exact hk2 _ (FrLe.cons rfl (FrLe.cons rfl (FrLe.cons rfl (FrLe.cons (by rw [e2]; rfl) (FrLe.nil _)))))
  · intro e2 hk2
    refine Ln rfl rfl rfl rfl (.inl (by rw [e2]; rfl)) ?_
    refine Ln rfl rfl rfl rfl (.inl (by rw [e2]; rfl)) ?_
    refine Ln rfl rfl rfl rfl (.inl (by rw [e2]; rfl)) ?_
    refine Ln rfl rfl rfl rfl (.inl (by rw [e2]; rfl)) ?_
    refine Ln rfl rfl rfl rfl (.inl (by rw [e2]; rfl)) ?_
    refine Lp (V_pickF rfl (evb e2) rfl) rfl rfl ?_
    exact hk2 _ (FrLe.cons rfl (FrLe.cons rfl (FrLe.cons rfl (FrLe.cons (by rw [e2]; rfl) (FrLe.nil _)))))
  intro fr hl
  refine Lfr hl ?_
  refine Lnil ?_
  refine thenN ?_
  refine AW.iff rfl (band_iff decide_eq_true_iff decide_eq_true_iff) h (fun h => ?_) (fun h => ?_)
  · refine AW.seq ?_
    refine AW.reg ?_
    refine Lp (V_asg rfl rfl) rfl rfl ?_
    refine Lp (V_asg rfl rfl) rfl rfl ?_
    refine Lp (V_asg rfl rfl) rfl rfl ?_
    refine Lnil ?_
    refine thenN ?_
    refine AW.ret ?_
    refine thenR ?_
    exact bR3 Tryz.results120 rfl rfl rfl ⟨_, _, _, rfl, h⟩
  refine AW.skip ?_
  refine thenN ?_
  refine AW.seq ?_
  refine AW.seq ?_
  refine AW.reg ?_
  refine Lp (V_move rfl rfl) rfl rfl ?_
  refine Lp (V_lss rfl rfl rfl) rfl rfl ?_
  refine Lp (V_move rfl rfl) rfl rfl ?_
  refine LsplitJ 12 (decide (x7_2 < 0)) decide_eq_true_iff h (fun fr σ => ∃ (x66_4 : Bool), FrLe [(0, Sl.v a0), (1, .int .i64 a1), (7, .int .i64 x7_2), (66, .bool x66_4)] fr ∧ j3_ref01_Number B ro a0 a1 x7_2 Q x66_4 σ) ?_ ?_ ?_
  · intro h e2 hk2
    refine Ln rfl rfl rfl rfl (.inl (by rw [e2]; rfl)) ?_
    refine Ln rfl rfl rfl rfl (.inl (by rw [e2]; rfl)) ?_
    refine Ln rfl rfl rfl rfl (.inl (by rw [e2]; rfl)) ?_
    refine Ln rfl rfl rfl rfl (.inr rfl) ?_
    refine Ln rfl rfl rfl rfl (.inr rfl) ?_
    refine Ln rfl rfl rfl rfl (.inr rfl) ?_
    refine Ln rfl rfl rfl rfl (.inr rfl) ?_
    refine Ln rfl rfl rfl rfl (.inr rfl) ?_
    refine Ln rfl rfl rfl rfl (.inr rfl) ?_
    refine Ln rfl rfl rfl rfl (.inr rfl) ?_
    refine Ln rfl rfl rfl rfl (.inl (by rw [e2]; rfl)) ?_
    refine Lp (V_pickT rfl (evb e2) rfl) rfl rfl ?_
    exact hk2 _ _ ⟨_, (FrLe.cons rfl (FrLe.cons rfl (FrLe.cons rfl (FrLe.cons rfl (FrLe.nil _))))), h⟩
  · intro h e2 hk2
    refine Lypb (V_move rfl rfl) rfl rfl rfl rfl e2 ?_
    refine Lypb (V_gtr rfl rfl rfl) rfl rfl rfl rfl e2 ?_
    refine Lypb (V_move rfl rfl) rfl rfl rfl rfl e2 ?_
    refine LsplitJ 8 (decide (0 < x7_2)) decide_eq_true_iff h (fun fr σ => ∃ (x65_19 : Bool), FrLe [(0, Sl.v a0), (1, .int .i64 a1), (7, .int .i64 x7_2), (54, .bool (decide (x7_2 < 0))), (65, .bool x65_19)] fr ∧ j18_ref01_Number B ro a0 a1 x7_2 Q x65_19 σ) ?_ ?_ ?_
    · intro h e5 hk5
      refine Lypb (V_move rfl rfl) rfl rfl rfl rfl e5 ?_
      refine Lypb (V_move rfl rfl) rfl rfl rfl rfl e5 ?_
      refine Lypb (V_move rfl rfl) rfl rfl rfl rfl e5 ?_
      refine Lypb (V_add rfl rfl rfl) rfl rfl rfl rfl e5 ?_
      obtain ⟨p62_20, ha, h0, h1, h⟩ := h
      refine Lypb (V_ixA rfl Tryz.underlying30 ty5 (ixL rfl ha) rfl h0 h1) rfl rfl rfl rfl e5 ?_
      obtain ⟨x63_21, hc, h⟩ := h
      refine Lyb rfl rfl rfl rfl e5 (X_ld rfl Tryz.underlying5 rfl rfl hc ?_)
      refine Lypb (V_eql rfl rfl rfl) rfl rfl rfl rfl e5 ?_
      refine Lypb (V_pickT rfl (evb e5) rfl) rfl rfl rfl rfl e2 ?_
      exact hk5 _ _ ⟨_, (FrLe.cons rfl (FrLe.cons rfl (FrLe.cons rfl (FrLe.cons rfl (FrLe.cons rfl (FrLe.nil _)))))), h⟩
    · intro h e5 hk5
      refine Ln rfl rfl rfl rfl (.inl (by rw [e5]; rfl)) ?_
      refine Ln rfl rfl rfl rfl (.inl (by rw [e5]; rfl)) ?_
      refine Ln rfl rfl rfl rfl (.inl (by rw [e5]; rfl)) ?_
      refine Ln rfl rfl rfl rfl (.inl (by rw [e5]; rfl)) ?_
      refine Ln rfl rfl rfl rfl (.inl (by rw [e5]; rfl)) ?_
      refine Ln rfl rfl rfl rfl (.inl (by rw [e5]; rfl)) ?_
      refine Ln rfl rfl rfl rfl (.inl (by rw [e5]; rfl)) ?_
      refine Lypb (V_pickF rfl (evb e5) rfl) rfl rfl rfl rfl e2 ?_
      exact hk5 _ _ ⟨_, (FrLe.cons rfl (FrLe.cons rfl (FrLe.cons rfl (FrLe.cons rfl (FrLe.cons rfl (FrLe.nil _)))))), h⟩
    rintro fr σ ⟨x65_19, hl, h⟩
    unfold j18_ref01_Number at h
    refine Lfr hl ?_
    refine Lp (V_pickF rfl (evb e2) rfl) rfl rfl ?_
    exact hk2 _ _ ⟨_, (FrLe.cons rfl (FrLe.cons rfl (FrLe.cons rfl (FrLe.cons rfl (FrLe.nil _))))), h⟩
  rintro fr σ ⟨x66_4, hl, h⟩
  unfold j3_ref01_Number at h
  refine Lfr hl ?_
  refine Lp (V_move rfl rfl) rfl rfl ?_
  refine LsplitJ 11 x66_4 Iff.rfl h (fun fr σ => ∃ (x78_6 : Bool), FrLe [(0, Sl.v a0), (1, .int .i64 a1), (7, .int .i64 x7_2), (78, .bool x78_6)] fr ∧ j5_ref01_Number B ro a0 a1 x7_2 Q x78_6 σ) ?_ ?_ ?_
  · intro h e15 hk15
    refine Ln rfl rfl rfl rfl (.inl (by rw [e15]; rfl)) ?_
    refine Ln rfl rfl rfl rfl (.inl (by rw [e15]; rfl)) ?_
    refine Ln rfl rfl rfl rfl (.inl (by rw [e15]; rfl)) ?_
    refine Ln rfl rfl rfl rfl (.inr rfl) ?_
    refine Ln rfl rfl rfl rfl (.inr rfl) ?_
    refine Ln rfl rfl rfl rfl (.inr rfl) ?_
    refine Ln rfl rfl rfl rfl (.inr rfl) ?_
    refine Ln rfl rfl rfl rfl (.inr rfl) ?_
    refine Ln rfl rfl rfl rfl (.inr rfl) ?_
    refine Ln rfl rfl rfl rfl (.inl (by rw [e15]; rfl)) ?_
    refine Lp (V_pickT rfl (evb e15) rfl) rfl rfl ?_
    exact hk15 _ _ ⟨_, (FrLe.cons rfl (FrLe.cons rfl (FrLe.cons rfl (FrLe.cons rfl (FrLe.nil _))))), h⟩
  · intro h e15 hk15
    refine Lypb (V_move rfl rfl) rfl rfl rfl rfl e15 ?_
    refine Lypb (V_eql rfl rfl rfl) rfl rfl rfl rfl e15 ?_
    refine Lypb (V_move rfl rfl) rfl rfl rfl rfl e15 ?_
    refine LsplitJ 7 (decide (x7_2 = 8)) decide_eq_true_iff h (fun fr σ => ∃ (x77_15 : Bool), FrLe [(0, Sl.v a0), (1, .int .i64 a1), (7, .int .i64 x7_2), (67, .bool x66_4), (77, .bool x77_15)] fr ∧ j14_ref01_Number B ro a0 a1 x7_2 x66_4 Q x77_15 σ) ?_ ?_ ?_
    · intro h e18 hk18
      refine Lypb (V_move rfl rfl) rfl rfl rfl rfl e18 ?_
      refine Lypb (V_move rfl rfl) rfl rfl rfl rfl e18 ?_
      refine Lypb (V_add rfl rfl rfl) rfl rfl rfl rfl e18 ?_
      obtain ⟨p74_16, ha, h0, h1, h⟩ := h
      refine Lypb (V_ixA rfl Tryz.underlying30 ty5 (ixL rfl ha) rfl h0 h1) rfl rfl rfl rfl e18 ?_
      obtain ⟨x75_17, hc, h⟩ := h
      refine Lyb rfl rfl rfl rfl e18 (X_ld rfl Tryz.underlying5 rfl rfl hc ?_)
      refine Lypb (V_gtr rfl rfl rfl) rfl rfl rfl rfl e18 ?_
      refine Lypb (V_pickT rfl (evb e18) rfl) rfl rfl rfl rfl e15 ?_
      exact hk18 _ _ ⟨_, (FrLe.cons rfl (FrLe.cons rfl (FrLe.cons rfl (FrLe.cons rfl (FrLe.cons rfl (FrLe.nil _)))))), h⟩
    · intro h e18 hk18
      refine Ln rfl rfl rfl rfl (.inl (by rw [e18]; rfl)) ?_
      refine Ln rfl rfl rfl rfl (.inl (by rw [e18]; rfl)) ?_
      refine Ln rfl rfl rfl rfl (.inl (by rw [e18]; rfl)) ?_
      refine Ln rfl rfl rfl rfl (.inl (by rw [e18]; rfl)) ?_
      refine Ln rfl rfl rfl rfl (.inl (by rw [e18]; rfl)) ?_
      refine Ln rfl rfl rfl rfl (.inl (by rw [e18]; rfl)) ?_
      refine Lypb (V_pickF rfl (evb e18) rfl) rfl rfl rfl rfl e15 ?_
      exact hk18 _ _ ⟨_, (FrLe.cons rfl (FrLe.cons rfl (FrLe.cons rfl (FrLe.cons rfl (FrLe.cons rfl (FrLe.nil _)))))), h⟩
    rintro fr σ ⟨x77_15, hl, h⟩
    unfold j14_ref01_Number at h
    refine Lfr hl ?_
    refine Lp (V_pickF rfl (evb e15) rfl) rfl rfl ?_
    exact hk15 _ _ ⟨_, (FrLe.cons rfl (FrLe.cons rfl (FrLe.cons rfl (FrLe.cons rfl (FrLe.nil _))))), h⟩
  rintro fr σ ⟨x78_6, hl, h⟩
  unfold j5_ref01_Number at h
  refine Lfr hl ?_
  refine Lnil ?_
  refine thenN ?_
  refine AW.iff rfl Iff.rfl h (fun h => ?_) (fun h => ?_)
  · refine AW.seq ?_
    refine AW.reg ?_
    refine Lp (V_asg rfl rfl) rfl rfl ?_
    refine Lp (V_asg rfl rfl) rfl rfl ?_
    refine Lp (V_asg rfl rfl) rfl rfl ?_
    refine Lnil ?_
    refine thenN ?_
    refine AW.ret ?_
    refine thenR ?_
    exact bR3 Tryz.results120 rfl rfl rfl ⟨_, _, _, rfl, h⟩
  refine AW.skip ?_
  refine thenN ?_
  refine AW.seq ?_
  refine AW.reg ?_
  refine Lp (V_asg rfl rfl) rfl rfl ?_
  refine Lnil ?_
  refine thenN ?_
  refine AW.seqJ (fun fr σ => ∃ (x9_8 : Int), FrLe [(1, .int .i64 a1), (7, .int .i64 x7_2), (9, .int .i64 x9_8)] fr ∧ j7_ref01_Number B ro a1 x7_2 Q x9_8 σ) ?_ ?_
  · rintro fr σ ⟨x9_8, hl, h⟩
    refine AW.weaken ?_ hl (HLe.refl _)
    unfold j7_ref01_Number at h
    refine AW.seq ?_
    refine AW.reg ?_
    refine Lp (V_move rfl rfl) rfl rfl ?_
    refine Lp (V_move rfl rfl) rfl rfl ?_
    refine Lp (V_move rfl rfl) rfl rfl ?_
    refine Lp (V_add rfl rfl rfl) rfl rfl ?_
    refine Lp (V_add rfl rfl rfl) rfl rfl ?_
    refine Lp (V_asg rfl rfl) rfl rfl ?_
    refine Lp (V_asg rfl rfl) rfl rfl ?_
    refine Lp (V_asg rfl rfl) rfl rfl ?_
    refine Lnil ?_
    refine thenN ?_
    refine AW.ret ?_
    exact bR3 Tryz.results120 rfl rfl rfl ⟨_, _, _, rfl, h⟩
  refine AW.seq ?_
  refine AW.reg ?_
  refine Lp (V_move rfl rfl) rfl rfl ?_
  refine Lp (V_asg rfl rfl) rfl rfl ?_
  refine Lnil ?_
  refine thenN ?_
  refine AW.block ?_
  refine ARound.loop (fr' := [(0, Sl.v a0), (1, .int .i64 a1), (7, .int .i64 x7_2), (9, .int .i64 0), (10, .int .i64 x7_2)]) ?_ (FrLe.cons rfl (FrLe.cons rfl (FrLe.cons rfl (FrLe.cons rfl (FrLe.cons rfl (FrLe.nil _))))))
  refine h (fun ⟨x9_10, x10_11⟩ σ => ARound _ _ _ _ _ _ [(0, Sl.v a0), (1, .int .i64 a1), (7, .int .i64 x7_2), (9, .int .i64 x9_10), (10, .int .i64 x10_11)] σ) ?_
  rintro ⟨x9_10, x10_11⟩ σ Y9 hY9 h
  show AW _ _ _ _ _ _ _ _
  unfold l9_ref01_Number at h
  dsimp only at h
  refine AW.seq ?_
  refine AW.seq ?_
  refine AW.reg ?_
  refine Lp (V_move rfl rfl) rfl rfl ?_
  refine Lp (V_geq rfl rfl rfl) rfl rfl ?_
  refine Lnil ?_
  refine thenN ?_
  refine AW.iff rfl decide_eq_true_iff h (fun h => ?_) (fun h => ?_)
  rotate_left
  · refine AW.exit ?_
    refine thenE ?_
    refine thenE ?_
    refine blockE ?_
    refine thenN ?_
    exact ⟨_, (FrLe.cons rfl (FrLe.cons rfl (FrLe.cons rfl (FrLe.nil _)))), h⟩
  refine AW.skip ?_
  refine thenN ?_
  refine AW.seq ?_
  refine AW.block ?_
  refine AW.reg ?_
  refine Lp (V_move rfl rfl) rfl rfl ?_
  refine Lp (V_mul rfl rfl rfl) rfl rfl ?_
  refine Lp (V_move rfl rfl) rfl rfl ?_
  refine Lp (V_move rfl rfl) rfl rfl ?_
  refine Lp (V_move rfl rfl) rfl rfl ?_
  refine Lp (V_add rfl rfl rfl) rfl rfl ?_
  obtain ⟨p90_12, ha, h0, h1, h⟩ := h
  refine Lp (V_ixA rfl Tryz.underlying30 ty5 (ixL rfl ha) rfl h0 h1) rfl rfl ?_
  obtain ⟨x91_13, hc, h⟩ := h
  refine Ls rfl rfl (X_ld rfl Tryz.underlying5 rfl rfl hc ?_)
  refine Lp (V_cvt rfl rfl Tryz.underlying5 Tryz.underlying3) rfl rfl ?_
  refine Lp (V_rem rfl rfl rfl (by decide)) rfl rfl ?_
  refine Lp (V_add rfl rfl rfl) rfl rfl ?_
  refine Lp (V_asg rfl rfl) rfl rfl ?_
  refine Lnil ?_
  refine blockN ?_
  refine thenN ?_
  refine AW.reg ?_
  refine Lp (V_move rfl rfl) rfl rfl ?_
  refine Lp (V_sub rfl rfl rfl) rfl rfl ?_
  refine Lp (V_asg rfl rfl) rfl rfl ?_
  refine Lnil ?_
  refine thenN ?_
  refine ARound.head (fr' := [(0, Sl.v a0), (1, .int .i64 a1), (7, .int .i64 x7_2), (9, .int .i64 (IntKind.i64.wrap ((IntKind.i64.wrap (x9_10 * 128)) + (Int.tmod (IntKind.i64.wrap x91_13) 128)))), (10, .int .i64 (IntKind.i64.wrap (x10_11 - 1)))]) ?_ (FrLe.cons rfl (FrLe.cons rfl (FrLe.cons rfl (FrLe.cons rfl (FrLe.cons rfl (FrLe.nil _))))))
  exact hY9 _ _ h

end Go.Proofs.YthfpmipeejjogaaGreatDoor.G

/- The tree's bytes, the walk; bytes as a string. -/
namespace Go.Proofs.YthfpmipeejjogaaGreatDoor.Zt
open Go Go.Proofs.YthfpmipeejjogaaGreatDoor.SL Go.Proofs.YthfpmipeejjogaaGreatDoor.G Go.Proofs.YthfpmipeejjogaaGreatDoor.Pa Go.Proofs.YthfpmipeejjogaaGreatDoor.Wi
set_option linter.unusedSimpArgs false
set_option linter.unusedVariables false
variable {B : World} {ro σ σ' : AH} {tag tag' : Nat → Nat}

theorem u5'' : Tryz.prog.underlying 5 = some (.int .u8) := by kernel_rfl
theorem forIn_bytes {P : Program} {f : Value → ByteArray → Sem (ForInStep ByteArray)} (hf : ∀ (c : UInt8) (r : ByteArray), f (vU c) r = Sem.pure (.yield (r.push c))) :
    ∀ (l : Str) (s : Str), (forIn (l.map vU) (S s) f : Sem ByteArray) = Sem.pure (S (s ++ l)) := by
  intro l
  induction l with
  | nil => intro s; simp; rfl
  | cons c l ih =>
    intro s
    simp only [List.map_cons, List.forIn_cons]
    rw [hf]
    show (match ForInStep.yield ((S s).push c) with | _ => _ : Sem ByteArray) = _
    have e : (S s).push c = S (s ++ [c]) := by unfold S; simp [ByteArray.push]
    show forIn (l.map vU) ((S s).push c) f = _
    rw [e, ih]
    simp
theorem awp_b2s {s : Sl} {l : Str} {K : Value → AH → Prop} (h : SL.Read ro σ s (l.map vU)) (hK : K (.string (S l)) σ) : awp Tryz.prog ro (convert 30 9 (Sl.v s)) K σ := by
  unfold convert
  simp only [bind_def]
  rw [awp_underlying u30, awp_underlying u9]
  simp only [Sl.v]
  rw [awp_underlying u5'']
  simp only
  unfold Conv.bytesToString
  cases hs : s.a with
  | none =>
    have : l = [] := by have := h.2.1 hs; simpa using this
    subst this
    exact hK
  | some p =>
    simp only
    rw [h.1]
    refine (awp_bind _ _).2 ?_
    refine awp_loadCells (l.map vU) 0 #[] (cellsAt_of 0 fun j v hj => by rw [Nat.zero_add]; exact h.2.2 p hs j v hj) ?_
    simp only [List.nil_append, List.forIn_toArray, Array.empty_append]
    refine (awp_bind _ _).2 ?_
    refine cast (congrArg (fun z => awp Tryz.prog ro z _ σ) (forIn_bytes (P := Tryz.prog) ?_ l [])).symm ?_
    · intro c r
      simp only [vU]
      show Sem.pure (ForInStep.yield (r.push (UInt8.ofNat (Int.toNat (c.toNat : Int))))) = _
      rw [Int.toNat_natCast]; simp
    · exact hK
set_option maxRecDepth 100000 in
theorem same_ok {a b : Sl} {x y : Str} {Q : Bool → AH → Prop} (ha : SL.Read ro σ a (x.map vU)) (hb : SL.Read ro σ b (y.map vU)) (hQ : Q (decide (x = y)) σ) : c_ref01_Same B ro a b σ Q := by
  refine ref01_Same_ok fun _ => ?_
  unfold f_ref01_Same
  refine awp_b2s ha ⟨S x, rfl, awp_b2s hb ⟨S y, rfl, ?_⟩⟩
  rw [show decide (S x = S y) = decide (x = y) from by simp only [S_inj]]
  exact hQ

/-! what a writer holds behind nodes -/
def wnode (a : Str × Bool) (p : Str × Nd) : Str × Bool := [p.2.ver, p.2.ctr, p.2.own].foldl wnum (wtext (wtext a p.1) p.2.data)
theorem wnum_bad (a : Str × Bool) (n : Int) (h : a.2 = true) : (wnum a n).2 = true := by unfold wnum; split <;> simp [h]
theorem wtext_bad (a : Str × Bool) (p : Str) (h : a.2 = true) : (wtext a p).2 = true := by unfold wtext; exact wnum_bad _ _ h
theorem wnode_bad (a : Str × Bool) (p : Str × Nd) (h : a.2 = true) : (wnode a p).2 = true := by
  unfold wnode
  simp only [List.foldl_cons, List.foldl_nil]
  exact wnum_bad _ _ (wnum_bad _ _ (wnum_bad _ _ (wtext_bad _ _ (wtext_bad _ _ h))))
theorem wtext_eq (a : Str × Bool) (p : Str) (h : p.length ≤ 4611686018427387903) : wtext a p = (a.1 ++ blob p, a.2) := by
  have hr : rightN (p.length : Int) = true := by simp [rightN]; omega
  unfold wtext wnum
  rw [if_pos hr]
  simp [blob]
theorem wnode_eq (a : Str × Bool) (p : Str × Nd) (h1 : p.1.length ≤ 4611686018427387903) (h2 : p.2.data.length ≤ 4611686018427387903) (h : numsOk p.2 = true) : wnode a p = (a.1 ++ encN p, a.2) := by
  unfold numsOk at h
  simp only [Bool.and_eq_true] at h
  unfold wnode
  rw [wtext_eq _ _ h1, wtext_eq _ _ h2]
  simp only [List.foldl_cons, List.foldl_nil]
  unfold wnum
  rw [if_pos h.1.1, if_pos h.1.2, if_pos h.2]
  simp [encN]
theorem wnode_no (a : Str × Bool) (p : Str × Nd) (h : numsOk p.2 = false) : (wnode a p).2 = true := by
  unfold wnode
  simp only [List.foldl_cons, List.foldl_nil]
  unfold numsOk at h
  by_cases h1 : rightN p.2.ver = true
  · by_cases h2 : rightN p.2.ctr = true
    · have h3 : ¬ rightN p.2.own = true := by simpa [h1, h2] using h
      unfold wnum; rw [if_neg h3]
    · refine wnum_bad _ _ ?_
      unfold wnum; rw [if_neg h2]
  · refine wnum_bad _ _ (wnum_bad _ _ ?_)
    unfold wnum; rw [if_neg h1]
theorem wnode_len (a : Str × Bool) (p : Str × Nd) : (wnode a p).1.length ≤ a.1.length + 45 + p.1.length + p.2.data.length := by
  unfold wnode
  simp only [List.foldl_cons, List.foldl_nil]
  have h1 := wtext_len a p.1
  have h2 := wtext_len (wtext a p.1) p.2.data
  have h3 := wnum_len (wtext (wtext a p.1) p.2.data) p.2.ver
  have h4 := wnum_len (wnum (wtext (wtext a p.1) p.2.data) p.2.ver) p.2.ctr
  have h5 := wnum_len (wnum (wnum (wtext (wtext a p.1) p.2.data) p.2.ver) p.2.ctr) p.2.own
  omega
theorem wfold_bad (x : St) (a : Str × Bool) (h : a.2 = true) : (x.foldl wnode a).2 = true := by
  induction x generalizing a with
  | nil => exact h
  | cons p x ih => exact ih _ (wnode_bad a p h)
theorem wfold (x : St) (hx : ∀ p ∈ x, p.1.length ≤ 4611686018427387903 ∧ p.2.data.length ≤ 4611686018427387903) (a : Str × Bool) :
    (x.all (fun p => numsOk p.2) = true → x.foldl wnode a = (a.1 ++ encL x, a.2)) ∧ (x.all (fun p => numsOk p.2) = false → (x.foldl wnode a).2 = true) := by
  induction x generalizing a with
  | nil => exact ⟨fun _ => by simp [encL], fun h => by simp at h⟩
  | cons p x ih =>
    have hp := hx p (by simp)
    have := ih (fun q hq => hx q (by simp [hq])) (wnode a p)
    refine ⟨fun h => ?_, fun h => ?_⟩
    · simp only [List.all_cons, Bool.and_eq_true] at h
      rw [List.foldl_cons, this.1 h.2, wnode_eq a p hp.1 hp.2 h.1]
      simp [encL]
    · rw [List.foldl_cons]
      cases hn : numsOk p.2 with
      | false => exact wfold_bad _ _ (wnode_no a p hn)
      | true => exact this.2 (by simpa [hn] using h)
set_option maxRecDepth 100000 in
theorem encode_ok {r T M : Nat} {bs : List Nat} {st : St} {Q : Sl → AH → Prop} (hr : r < 64) (hr0 : r ≠ 0) (hr1 : r ≠ 1) (hr6 : r ≠ 6) (hr3 : r ≠ 30) (h : TreeAt tag σ r T M bs st) (hl : ∀ p ∈ st, p.1.length ≤ 128 ∧ p.2.data.length ≤ 256) (hn : st.length ≤ 4294967296)
    (hQ : ∀ (s : Sl) (tag' : Nat → Nat) (σ' : AH), Step [30, 94, 1] ro tag σ tag' σ' → Row tag' σ' 6 5 s ((encS st).map vU) → Q s σ') : c_ztree_Tree_Encode B ro (some ⟨T, 0, none⟩) σ Q := by
  refine ztree_Tree_Encode_ok fun hs => ?_
  unfold f_ztree_Tree_Encode
  have hR : ∀ x ∈ [30, 94, 1], x % 64 ≠ r % 64 ∧ x ≠ 6 := fun x hx => by
    simp only [List.mem_cons, List.not_mem_nil, or_false] at hx
    omega
  refine newWriter_ok (tag := tag) (r := 30) fun W tag1 σ1 st1 b1 => ?_
  refine paths_ok (q := 22) (h.keep (st1 []) (by simp)) (fun p hp => (hl p hp).1) (by omega) fun s tag2 σ2 ks st2 hpm hsrt hr2 => ?_
  have hks := srt_keys h.keys hpm hsrt
  have hsl : s.len = ks.length := by rw [hr2.len, List.length_map]
  have hkl : ks.length = (srt st).length := by rw [hks, List.length_map]
  have hkn : ks.length = st.length := by rw [hpm.length_eq, List.length_map]
  have hmem : ∀ p ∈ srt st, p.1.length ≤ 128 ∧ p.2.data.length ≤ 256 := fun p hp => hl p ((srt_perm st).mem_iff.1 hp)
  suffices ∀ (m j : Nat) (tag3 : Nat → Nat) (σ3 : AH), j + m = ks.length → Step [30, 94, 1] ro tag σ tag3 σ3 → TreeAt tag3 σ3 r T M bs st → Row tag3 σ3 22 9 s (ks.map Pa.vS) → (((srt st).take j).foldl wnode ([], false)).1.length ≤ 429 * j →
      BufAt tag3 σ3 30 W (((srt st).take j).foldl wnode ([], false)).1 (((srt st).take j).foldl wnode ([], false)).2 → lfpD (l6_ztree_Tree_Encode B ro (some ⟨T, 0, none⟩) (some ⟨W, 0, none⟩) s Q) (j : Int) σ3 from
    this _ 0 tag2 σ2 (Nat.zero_add _) ((st1 _).trans (st2 _)) ((h.keep (st1 []) (by simp)).keep (st2 []) (by simp)) hr2 (by simp) (b1.keep (st2 []) (by simp) (by simp))
  intro m
  induction m with
  | zero =>
    intro j tag3 σ3 hj hst hA hrow hlen hb
    refine lfpD.intro ?_
    unfold l6_ztree_Tree_Encode
    rw [if_neg (by omega)]
    unfold j2_ztree_Tree_Encode
    rw [List.take_of_length_le (by omega)] at hb hlen
    have hw := wfold (srt st) (fun p hp => by have := hmem p hp; omega) ([], false)
    have hes : encS st = if (srt st).all (fun p => numsOk p.2) = true then encL (srt st) else [] := rfl
    refine out_ok hb hst.sep (by omega) (fun hbad => ?_) fun hgood s' tag4 σ4 st4 r4 => ?_
    · refine hQ _ tag3 σ3 hst ?_
      rw [hes, if_neg (fun hall => by rw [hw.1 hall] at hbad; cases hbad)]
      exact Row.nil 6 5
    · refine hQ s' tag4 σ4 (hst.trans (st4 _)) ?_
      have hall : (srt st).all (fun p => numsOk p.2) = true := by
        cases e : (srt st).all (fun p => numsOk p.2) with
        | true => rfl
        | false => rw [hw.2 e] at hgood; cases hgood
      rw [hes, if_pos hall]
      rw [hw.1 hall] at r4
      simpa using r4
  | succ m ih =>
    intro j tag3 σ3 hj hst hA hrow hlen hb
    have hjl : j < ks.length := by omega
    have hjs : j < (srt st).length := by omega
    obtain ⟨pp, hpp, _, hget⟩ := Row.sget hrow hst.sep hjl
    have hs3 := hst.sep
    refine lfpD.intro ?_
    unfold l6_ztree_Tree_Encode
    rw [if_pos (by omega)]
    refine ⟨pp, hpp, by omega, by omega, S ks[j], by rw [Int.toNat_natCast]; exact hget j hjl, _, rfl, _, Row.cell1 hA.cell hs3, ?_⟩
    refine awp_lookup_str hA.map hs3 u126 u9 ty129 ?_
    have hkj : ks[j] = (srt st)[j].1 := by simp only [hks, List.getElem_map]
    have hnj : st.lookup ks[j] = some (srt st)[j].2 := by
      rw [lookup_iff h.keys, ← (srt_perm st).mem_iff, hkj]
      exact List.getElem_mem hjs
    have hdl := hmem _ (List.getElem_mem hjs)
    rcases kv_lookup st bs ks[j] h.len with ⟨a, _⟩ | ⟨i, b, n, a1, a2, a3, e⟩
    · rw [hnj] at a; cases a
    · rw [e]
      rw [hnj] at a3
      have hn : n = (srt st)[j].2 := (Option.some.inj a3).symm
      refine ⟨some ⟨b, 0, none⟩, rfl, ?_⟩
      refine nw_cells (tag := tag3) 0 hs3 fun x tag4 σ4 st4 r4 => ?_
      refine texts1_ok (r := 30) (q := 0) (p := ks[j]) (hb.keep (st4 []) (by simp) (by simp)) (by decide) (by decide) (st4 []).sep (by rw [hkj]; omega) r4 fun tag5 σ5 st5 b5 => ?_
      have hA5 := (hA.keep (st4 []) (by simp)).keep st5 hR
      obtain ⟨ds, hn1, hn2⟩ := hA5.nodes i b _ a1 a2
      obtain ⟨q5, hq5, hg5⟩ := hn1.ptr st5.sep (by simp)
      cases hq5
      refine ⟨_, rfl, ds, hg5 4 _ rfl, ?_⟩
      refine nw_cells (tag := tag5) 0 st5.sep fun y tag6 σ6 st6 r6 => ?_
      have hn26 := hn2.keep (st6 []) (by simp)
      have hdn : n.data.length ≤ 256 := by rw [hn]; exact hdl.2
      have l5 := wtext_len (((srt st).take j).foldl wnode ([], false)) ks[j]
      refine blobs1_ok (r := 30) (q := 0) (p := n.data) (b5.keep (st6 []) (by simp) (by simp)) (by decide) (by decide) (st6 []).sep (by rw [hkj] at l5 ⊢; omega) r6 (by rw [hn2.len, List.length_map]) (fun tag7 σ7 st7 => (hn26.keep st7 (by decide)).read st7.sep) fun tag7 σ7 st7 b7 => ?_
      have hA7 := (hA5.keep (st6 []) (by simp)).keep st7 hR
      obtain ⟨ds7, hn17, hn27⟩ := hA7.nodes i b _ a1 a2
      obtain ⟨q7, hq7, hg7⟩ := hn17.ptr st7.sep (by simp)
      cases hq7
      refine ⟨_, rfl, _, rfl, _, rfl, n.ver, hg7 0 _ rfl, n.ctr, hg7 1 _ rfl, n.own, hg7 2 _ rfl, ?_⟩
      refine nw_cells (tag := tag7) 0 st7.sep fun z tag8 σ8 st8 r8 => ?_
      have l7 := wtext_len (wtext (((srt st).take j).foldl wnode ([], false)) ks[j]) n.data
      refine nums_ok (r := 30) (q := 0) (ns := [n.ver, n.ctr, n.own]) (by decide) (by decide) (b7.keep (st8 []) (by simp) (by simp)) (st8 []).sep (by rw [hkj] at l5 l7 ⊢; simp; omega) r8 fun tag9 σ9 st9 b9 => ?_
      rw [Pa.inc j (by omega)]
      have e1 : ((srt st).take (j + 1)).foldl wnode ([], false) = [n.ver, n.ctr, n.own].foldl wnum (wtext (wtext (((srt st).take j).foldl wnode ([], false)) ks[j]) n.data) := by
        rw [List.take_add_one, List.getElem?_eq_getElem hjs, List.foldl_append, hn, hkj]; rfl
      have l9 := wnode_len (((srt st).take j).foldl wnode ([], false)) (srt st)[j]
      have e2 : wnode (((srt st).take j).foldl wnode ([], false)) (srt st)[j] = ((srt st).take (j + 1)).foldl wnode ([], false) := by
        rw [List.take_add_one, List.getElem?_eq_getElem hjs, List.foldl_append]; rfl
      refine ih (j + 1) tag9 σ9 (by omega) (((((((hst.trans (st4 _)).trans st5).trans (st6 _)).trans st7).trans (st8 _)).trans st9)) ((hA7.keep (st8 []) (by simp)).keep st9 hR) ((((((hrow.keep (st4 []) (by simp)).keep st5 (by decide)).keep (st6 []) (by simp)).keep st7 (by decide)).keep (st8 []) (by simp)).keep st9 (by decide)) ?_ ?_
      · rw [← e2]; omega
      · rw [e1]; exact b9
end Go.Proofs.YthfpmipeejjogaaGreatDoor.Zt
