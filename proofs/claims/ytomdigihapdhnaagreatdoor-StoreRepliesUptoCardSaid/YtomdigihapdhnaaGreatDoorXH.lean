/- WiB, WiC, EnC, WiD, EnE, MuA, MuC, MuD, RfA, RfB, RfC, RfD, R7A, MuF, MuG, MuH, MuE84, MuI, R7B, R7D, SoA, SoB, ReW, WiE, SoF, Dr2 -/
import Derived.CallsIn
import Derived.RangeFuncWrites
import Derived.RangeFuncLeaves
import Derived.RangeFuncBox
import Derived.Shelf.Abstract
import Derived.WalkKit
import Derived.OwnWalkIn
import Derived.TacticsInMore
import Derived.LoopNIn
import Derived.LoopIn
import Derived.Test.YtomdigihapdhnaaGreatDoorProg
import Derived.Test.YtomdigihapdhnaaGreatDoorXG
/- The wire, the walk: a writer. -/
namespace Go.Proofs.YtomdigihapdhnaaGreatDoor.Wi
open Go Go.Proofs.YtomdigihapdhnaaGreatDoor.SL Go.Proofs.YtomdigihapdhnaaGreatDoor.G Go.Proofs.YtomdigihapdhnaaGreatDoor.Zt
set_option linter.unusedSimpArgs false
set_option linter.unusedVariables false
variable {B : World} {ro σ σ' : AH} {tag tag' : Nat → Nat}

theorem u8or (n : Nat) : bitOr .u8 (IntKind.u8.wrap (n : Int)) 128 = ((n % 128 + 128 : Nat) : Int) := by
  have h : ∀ c : Fin 256, bitOr .u8 ((c.val : Nat) : Int) 128 = ((c.val % 128 + 128 : Nat) : Int) := by decide +kernel
  have e : IntKind.u8.wrap (n : Int) = ((n % 256 : Nat) : Int) := by
    simp [IntKind.wrap, IntKind.bits, IntKind.signed]
  rw [e, h ⟨n % 256, Nat.mod_lt _ (by decide)⟩]
  simp only
  omega
theorem u8wrap {n : Nat} (h : n < 256) : IntKind.u8.wrap (n : Int) = (n : Int) := by
  simp [IntKind.wrap, IntKind.bits, IntKind.signed]; omega
theorem vU_of {n : Nat} (h : n < 256) : vU (UInt8.ofNat n) = .int .u8 (n : Int) := by
  unfold vU; rw [u8_of n h]
theorem right_ok {n : Int} {Q : Bool → AH → Prop} (hQ : Q (rightN n) σ) : c_wire_right B ro n σ Q := by
  refine wire_right_ok fun _ => ?_
  unfold f_wire_right
  exact hQ
set_option maxRecDepth 100000 in
theorem put_ok {n : Nat} {Q : Sl → AH → Prop} (hs : SL.Sep ro σ) (hn : n < 4611686018427387904) (hQ : ∀ s tag' σ', Step [1] ro tag σ tag' σ' → Row tag' σ' 1 5 s ((vput n).map vU) → Q s σ') : c_wire_put B ro ⟨none, 0, 0⟩ (n : Int) σ Q := by
  refine wire_put_ok fun _ => ?_
  unfold f_wire_put
  suffices ∀ (m k : Nat) (acc : Str) (s : Sl) (tag1 : Nat → Nat) (σ1 : AH), k < 128 ^ (m + 1) → acc.length + m < 20 → acc ++ vput k = vput n → Step [1] ro tag σ tag1 σ1 → Row tag1 σ1 1 5 s (acc.map vU) → lfpD (l6_wire_put B ro Q) (s, (k : Int)) σ1 from
    this 8 n [] ⟨none, 0, 0⟩ tag σ (by omega) (by decide) rfl (Step.refl hs) (Row.nil 1 5)
  intro m
  induction m with
  | zero =>
    intro k acc s tag1 σ1 hk ha he st r1
    have hk : k < 128 := by simpa using hk
    refine lfpD.intro ?_
    unfold l6_wire_put
    simp only
    rw [if_neg (by omega)]
    unfold j1_wire_put
    refine nw_cells (tag := tag1) 0 st.sep fun x tag2 σ2 st2 r2 => ?_
    rw [u8wrap (by omega)] at r2
    refine awp_appendN (l2 := [vU (UInt8.ofNat k)]) (r1.keep (st2 []) (by simp)) (st2 []).sep (by rw [vU_of (by omega)]; exact r2.read (st2 []).sep) u30 ty5 rfl (by simp [storable]) (by simp; omega) (by decide) fun s' tag3 σ3 st3 r3 => ?_
    refine ⟨s', rfl, hQ s' tag3 σ3 (st.trans ((st2 _).trans (st3 _ (.inr (by simp))))) ?_⟩
    rw [← he]
    rw [vput, if_pos hk, List.map_append]
    exact r3
  | succ m ih =>
    intro k acc s tag1 σ1 hk ha he st r1
    refine lfpD.intro ?_
    unfold l6_wire_put
    simp only
    by_cases h128 : 128 ≤ k
    · rw [if_pos (by omega)]
      refine nw_cells (tag := tag1) 0 st.sep fun x tag2 σ2 st2 r2 => ?_
      rw [u8or] at r2
      refine awp_appendN (l2 := [vU (UInt8.ofNat (k % 128 + 128))]) (r1.keep (st2 []) (by simp)) (st2 []).sep (by rw [vU_of (by omega)]; exact r2.read (st2 []).sep) u30 ty5 rfl (by simp [storable]) (by simp; omega) (by decide) fun s' tag3 σ3 st3 r3 => ?_
      refine ⟨s', rfl, ?_⟩
      rw [show Int.fdiv (k : Int) (2 ^ (min (Int.toNat 7) 64)) = ((k / 128 : Nat) : Int) by
        rw [show (2 : Int) ^ (min (Int.toNat 7) 64) = 128 from by decide, Int.fdiv_eq_ediv_of_nonneg _ (by decide)]; omega]
      refine ih (k / 128) (acc ++ [UInt8.ofNat (k % 128 + 128)]) s' tag3 σ3 (by rw [Nat.pow_succ] at hk; exact Nat.div_lt_of_lt_mul (by rw [Nat.mul_comm]; exact hk)) (by simp; omega) ?_ (st.trans ((st2 _).trans (st3 _ (.inr (by simp))))) (by rw [List.map_append]; exact r3)
      rw [← he, List.append_assoc]
      conv => rhs; rw [vput, if_neg (by omega)]
      rfl
    · rw [if_neg (by omega)]
      unfold j1_wire_put
      refine nw_cells (tag := tag1) 0 st.sep fun x tag2 σ2 st2 r2 => ?_
      rw [u8wrap (by omega)] at r2
      refine awp_appendN (l2 := [vU (UInt8.ofNat k)]) (r1.keep (st2 []) (by simp)) (st2 []).sep (by rw [vU_of (by omega)]; exact r2.read (st2 []).sep) u30 ty5 rfl (by simp [storable]) (by simp; omega) (by decide) fun s' tag3 σ3 st3 r3 => ?_
      refine ⟨s', rfl, hQ s' tag3 σ3 (st.trans ((st2 _).trans (st3 _ (.inr (by simp))))) ?_⟩
      rw [← he]
      rw [vput, if_pos (by omega), List.map_append]
      exact r3

/-- what a number does to what was written -/
def wnum (a : Str × Bool) (n : Int) : Str × Bool := if rightN n then (a.1 ++ vput n.toNat, a.2) else (a.1, true)
theorem wnum_len (a : Str × Bool) (n : Int) : (wnum a n).1.length ≤ a.1.length + 9 := by
  unfold wnum
  split
  · rename_i h
    unfold rightN at h
    simp only [Bool.and_eq_true, decide_eq_true_eq] at h
    have := (vput_len 8 n.toNat (by omega)).2
    simp; omega
  · simp
set_option maxRecDepth 100000 in
theorem num_ok {r W : Nat} {a : Str × Bool} {n : Int} {Q : AH → Prop} (h : BufAt tag σ r W a.1 a.2) (hr : r ≠ 1) (hs : SL.Sep ro σ) (hl : a.1.length + 9 ≤ 140737488355328)
    (hQ : ∀ tag' σ', Step [r, r + 64, 1] ro tag σ tag' σ' → BufAt tag' σ' r W (wnum a n).1 (wnum a n).2 → Q σ') : c_wire_buffer_num B ro (some ⟨W, 0, none⟩) n σ Q := by
  refine wire_buffer_num_ok fun _ => ?_
  unfold f_wire_buffer_num
  refine right_ok ?_
  unfold wnum at hQ
  by_cases hn : rightN n = true
  · rw [if_neg (by simp [hn])]
    simp only [hn, if_true] at hQ
    have hn' := hn
    unfold rightN at hn'
    simp only [Bool.and_eq_true, decide_eq_true_eq] at hn'
    refine ⟨_, rfl, ?_⟩
    obtain ⟨k, rfl⟩ := Int.eq_ofNat_of_zero_le hn'.1
    rw [Int.toNat_natCast] at hQ
    refine put_ok (tag := tag) hs (by omega) fun s tag1 σ1 st1 r1 => ?_
    have hk := (vput_len 8 k (by omega)).2
    refine bufWrite_ok (d := vput k) (h.keep st1 (by simpa using hr) (by simp)) st1.sep (by omega) (by rw [r1.len]; simp) (fun tag2 σ2 st2 => (r1.keep st2 (by simp; omega)).read st2.sep) fun _ _ tag2 σ2 st2 h2 => ?_
    exact hQ tag2 σ2 ((st1.mono (by simp)).trans (st2.mono (by simp))) h2
  · rw [if_pos (by simpa using hn)]
    simp only [hn] at hQ
    obtain ⟨s0, hcap, lr, h1, h2⟩ := h
    refine ⟨_, rfl, ?_⟩
    refine h1.st (i := 3) hs rfl (by simp) rfl fun σ1 st1 r1 => ?_
    exact hQ tag σ1 (st1.mono (by simp)) ⟨s0, hcap, lr, r1, h2.keep st1 (by simp)⟩
set_option maxRecDepth 100000 in
theorem newWriter_ok {r : Nat} {Q : Option Addr → AH → Prop} (hQ : ∀ W tag' σ', (∀ R, Step R ro tag σ tag' σ') → BufAt tag' σ' r W [] false → Q (some ⟨W, 0, none⟩) σ') : c_wire_NewWriter B ro σ Q := by
  refine wire_NewWriter_ok fun hs => ?_
  unfold f_wire_NewWriter
  refine nw_cells (tag := tag) r hs fun W tag1 σ1 st1 r1 => ?_
  exact hQ W tag1 σ1 st1 ⟨⟨none, 0, 0⟩, by decide, 0, r1, Row.nil _ _⟩

theorem not1 : ¬ (IntKind.i64.wrap (0 + 1) < ((1 : Nat) : Int)) := by decide
def wtext (a : Str × Bool) (p : Str) : Str × Bool := ((wnum a p.length).1 ++ p, (wnum a p.length).2)
theorem wtext_len (a : Str × Bool) (p : Str) : (wtext a p).1.length ≤ a.1.length + 9 + p.length := by
  have := wnum_len a p.length
  unfold wtext; simp; omega
set_option maxRecDepth 100000 in
/-- one text -/
theorem texts1_ok {r W x q : Nat} {a : Str × Bool} {p : Str} {Q : AH → Prop} (h : BufAt tag σ r W a.1 a.2) (hr : r ≠ 1) (hq : q ≠ r ∧ q ≠ r + 64 ∧ q ≠ 1) (hs : SL.Sep ro σ) (hl : a.1.length + 9 + p.length ≤ 140737488355328) (hx : Row tag σ q 9 ⟨some ⟨x, 0, none⟩, 1, 1⟩ [Pa.vS p])
    (hQ : ∀ tag' σ', Step [r, r + 64, 1] ro tag σ tag' σ' → BufAt tag' σ' r W (wtext a p).1 (wtext a p).2 → Q σ') : c_wire_Writer_Texts B ro (some ⟨W, 0, none⟩) ⟨some ⟨x, 0, none⟩, 1, 1⟩ σ Q := by
  refine wire_Writer_Texts_ok fun _ => ?_
  unfold f_wire_Writer_Texts
  refine lfpD.intro ?_
  unfold l1_wire_Writer_Texts
  rw [if_pos (by simp)]
  refine ⟨_, rfl, by decide, by simp, S p, hx.cell1 hs, _, rfl, ?_⟩
  have hlen := wnum_len a p.length
  rw [show ((S p).size : Int) = (p.length : Nat) from by rw [← L_len, L_S]]
  refine num_ok h hr hs (by omega) fun tag1 σ1 st1 h1 => ?_
  refine ⟨_, rfl, ?_⟩
  refine bufWriteStr_ok h1 st1.sep (by rw [L_S]; omega) fun _ _ tag2 σ2 st2 h2 => ?_
  rw [L_S] at h2
  refine lfpD.intro ?_
  rw [if_neg (show ¬ (IntKind.i64.wrap (0 + 1) < ((⟨some ⟨x, 0, none⟩, 1, 1⟩ : Sl).len : Int)) from not1)]
  exact hQ tag2 σ2 (st1.trans (st2.mono (by simp))) h2
set_option maxRecDepth 100000 in
/-- one blob -/
theorem blobs1_ok {r W x q : Nat} {a : Str × Bool} {s : Sl} {p : Str} {Q : AH → Prop} (h : BufAt tag σ r W a.1 a.2) (hr : r ≠ 1) (hq : q ≠ r ∧ q ≠ r + 64 ∧ q ≠ 1) (hs : SL.Sep ro σ) (hl : a.1.length + 9 + p.length ≤ 140737488355328) (hx : Row tag σ q 24 ⟨some ⟨x, 0, none⟩, 1, 1⟩ [Sl.v s]) (hsl : s.len = p.length)
    (hsrc : ∀ tag' σ', Step [r, r + 64, 1] ro tag σ tag' σ' → SL.Read ro σ' s (p.map vU)) (hQ : ∀ tag' σ', Step [r, r + 64, 1] ro tag σ tag' σ' → BufAt tag' σ' r W (wtext a p).1 (wtext a p).2 → Q σ') :
    c_wire_Writer_Blobs B ro (some ⟨W, 0, none⟩) ⟨some ⟨x, 0, none⟩, 1, 1⟩ σ Q := by
  refine wire_Writer_Blobs_ok fun _ => ?_
  unfold f_wire_Writer_Blobs
  refine lfpD.intro ?_
  unfold l1_wire_Writer_Blobs
  rw [if_pos (by simp)]
  refine ⟨_, rfl, by decide, by simp, s, hx.cell1 hs, _, rfl, ?_⟩
  have hlen := wnum_len a p.length
  rw [hsl]
  refine num_ok h hr hs (by omega) fun tag1 σ1 st1 h1 => ?_
  refine ⟨_, rfl, ?_⟩
  have wid : ∀ x ∈ [r, r + 64], x ∈ [r, r + 64, 1] := fun x hx => by
    simp only [List.mem_cons, List.not_mem_nil, or_false] at hx ⊢
    rcases hx with h | h <;> simp [h]
  refine bufWrite_ok (d := p) h1 st1.sep (by omega) hsl (fun tag2 σ2 st2 => hsrc tag2 σ2 (st1.trans (st2.mono wid))) fun _ _ tag2 σ2 st2 h2 => ?_
  refine lfpD.intro ?_
  rw [if_neg (show ¬ (IntKind.i64.wrap (0 + 1) < ((⟨some ⟨x, 0, none⟩, 1, 1⟩ : Sl).len : Int)) from not1)]
  exact hQ tag2 σ2 (st1.trans (st2.mono wid)) h2
set_option maxRecDepth 100000 in
theorem nums_ok {r W q : Nat} {s : Sl} {Q : AH → Prop} (hr : r ≠ 1) (hq : q ≠ r ∧ q ≠ r + 64 ∧ q ≠ 1) {ns : List Int} {a : Str × Bool} (h : BufAt tag σ r W a.1 a.2) (hs : SL.Sep ro σ) (hl : a.1.length + 9 * ns.length ≤ 140737488355328) (hx : Row tag σ q 3 s (ns.map Zt.vI))
    (hQ : ∀ tag' σ', Step [r, r + 64, 1] ro tag σ tag' σ' → BufAt tag' σ' r W (ns.foldl wnum a).1 (ns.foldl wnum a).2 → Q σ') : c_wire_Writer_Nums B ro (some ⟨W, 0, none⟩) s σ Q := by
  refine wire_Writer_Nums_ok fun _ => ?_
  unfold f_wire_Writer_Nums
  have hsl : s.len = ns.length := by rw [hx.len, List.length_map]
  suffices ∀ (m j : Nat) (tag1 : Nat → Nat) (σ1 : AH), j + m = ns.length → Step [r, r + 64, 1] ro tag σ tag1 σ1 → ((ns.take j).foldl wnum a).1.length ≤ a.1.length + 9 * j → BufAt tag1 σ1 r W ((ns.take j).foldl wnum a).1 ((ns.take j).foldl wnum a).2 → lfpD (l1_wire_Writer_Nums B ro (some ⟨W, 0, none⟩) s Q) (j : Int) σ1 from
    this _ 0 tag σ (Nat.zero_add _) (Step.refl hs) (by simp) (by simpa using h)
  intro m
  induction m with
  | zero =>
    intro j tag1 σ1 hj st _ h1
    refine lfpD.intro ?_
    unfold l1_wire_Writer_Nums
    rw [if_neg (by omega)]
    rw [List.take_of_length_le (by omega)] at h1
    exact hQ tag1 σ1 st h1
  | succ m ih =>
    intro j tag1 σ1 hj st hln h1
    have hjl : j < ns.length := by omega
    have hx1 := hx.keep st (by simp; omega)
    obtain ⟨p, hp, hg⟩ := hx1.ptr st.sep (by simp; omega)
    refine lfpD.intro ?_
    unfold l1_wire_Writer_Nums
    rw [if_pos (by omega)]
    refine ⟨p, hp, by omega, by omega, ns[j], ?_, _, rfl, ?_⟩
    · have := hg j (Zt.vI ns[j]) (by rw [List.getElem?_map, List.getElem?_eq_getElem hjl]; rfl)
      rw [Int.toNat_natCast]; exact this
    · refine num_ok h1 hr st.sep (by omega) fun tag2 σ2 st2 h2 => ?_
      rw [Pa.inc j (by omega)]
      have e : (ns.take (j + 1)).foldl wnum a = wnum ((ns.take j).foldl wnum a) ns[j] := by
        rw [List.take_add_one, List.getElem?_eq_getElem hjl, List.foldl_append]; rfl
      have := wnum_len ((ns.take j).foldl wnum a) ns[j]
      exact ih (j + 1) tag2 σ2 (by omega) (st.trans st2) (by rw [e]; omega) (by rw [e]; exact h2)
set_option maxRecDepth 100000 in
theorem out_ok {r W : Nat} {a : Str × Bool} {Q : Sl → Int → AH → Prop} (h : BufAt tag σ r W a.1 a.2) (hs : SL.Sep ro σ) (hl : a.1.length ≤ 140737488355328)
    (hbad : a.2 = true → Q ⟨none, 0, 0⟩ 10 σ) (hgood : a.2 = false → ∀ s tag' σ', (∀ R, Step R ro tag σ tag' σ') → Row tag' σ' 6 5 s (a.1.map vU) → Q s 0 σ') : c_wire_Writer_Out B ro (some ⟨W, 0, none⟩) σ Q := by
  refine wire_Writer_Out_ok fun _ => ?_
  unfold f_wire_Writer_Out
  obtain ⟨s0, hcap, lr, h1, h2⟩ := h
  obtain ⟨p, hp, hg⟩ := h1.ptr hs (by simp)
  cases hp
  refine ⟨_, rfl, a.2, hg 3 _ rfl, ?_⟩
  by_cases hb : a.2 = true
  · rw [if_pos hb]; exact hbad hb
  · rw [if_neg hb]
    refine ⟨_, rfl, ?_⟩
    refine bytes_Buffer_Bytes_ok fun _ => ?_
    unfold f_bytes_Buffer_Bytes
    refine ⟨_, rfl, _, rfl, s0, hg 0 _ rfl, 0, hg 1 _ rfl, ⟨trivial, by decide, by simp only [cutHi]; omega⟩, ?_⟩
    rw [show (⟨cutA s0.a (Int.toNat 0) s0.cap 1, s0.len - Int.toNat 0, s0.cap - Int.toNat 0⟩ : Sl) = s0 from by rw [show Int.toNat 0 = 0 from rfl, cutA_zero]; rfl]
    refine clone_ok (tag := tag) (h2.read hs) hs (by simp; omega) (vU_st _) fun s' tag1 σ1 st1 r1 => ?_
    exact hgood (by simpa using hb) s' tag1 σ1 st1 r1
end Go.Proofs.YtomdigihapdhnaaGreatDoor.Wi

/- The wire, the walk: a reader. -/
namespace Go.Proofs.YtomdigihapdhnaaGreatDoor.Wi
open Go Go.Proofs.YtomdigihapdhnaaGreatDoor.SL Go.Proofs.YtomdigihapdhnaaGreatDoor.G Go.Proofs.YtomdigihapdhnaaGreatDoor.Zt
set_option linter.unusedSimpArgs false
set_option linter.unusedVariables false
variable {B : World} {ro σ σ' : AH} {tag tag' : Nat → Nat}

theorem u8and (c : UInt8) : bitAnd .u8 (c.toNat : Int) 127 = ((c.toNat % 128 : Nat) : Int) := by
  have h : ∀ c : Fin 256, bitAnd .u8 ((c.val : Nat) : Int) 127 = ((c.val % 128 : Nat) : Int) := by decide +kernel
  exact h ⟨c.toNat, u8_lt c⟩
theorem orshift {n i : Nat} (c : UInt8) (hi : i ≤ 8) (hn : n < 128 ^ i) :
    bitOr .i64 (n : Int) (IntKind.i64.wrap ((IntKind.i64.wrap (bitAnd .u8 (c.toNat : Int) 127)) * 2 ^ (min (Int.toNat (IntKind.i64.wrap (7 * (i : Int)))) 64))) = ((n + 128 ^ i * (c.toNat % 128) : Nat) : Int) := by
  have hm : c.toNat % 128 < 128 := Nat.mod_lt _ (by decide)
  rw [u8and]
  generalize c.toNat % 128 = m at hm
  rw [w64_eq (n := (m : Int)) (by omega) (by omega), w64_eq (n := 7 * (i : Int)) (by omega) (by omega)]
  have hp : (2 : Int) ^ (min (Int.toNat (7 * (i : Int))) 64) = ((128 ^ i : Nat) : Int) := by
    have : i = 0 ∨ i = 1 ∨ i = 2 ∨ i = 3 ∨ i = 4 ∨ i = 5 ∨ i = 6 ∨ i = 7 ∨ i = 8 := by omega
    rcases this with rfl | rfl | rfl | rfl | rfl | rfl | rfl | rfl | rfl <;> decide
  rw [hp]
  have h8 : 128 ^ i ≤ 128 ^ 8 := Nat.pow_le_pow_right (by decide) hi
  have h9 : m * 128 ^ i ≤ 127 * 128 ^ 8 := Nat.mul_le_mul (by omega) h8
  have h9' : m * 128 ^ i ≤ 9151314442816847872 := by simpa using h9
  have hn' : n < 72057594037927936 := Nat.lt_of_lt_of_le hn (by simpa using h8)
  rw [← Int.natCast_mul, w64_eq (by omega) (by omega)]
  unfold bitOr
  have e : (BitVec.ofInt IntKind.i64.bits (n : Int) ||| BitVec.ofInt IntKind.i64.bits ((m * 128 ^ i : Nat) : Int)).toNat = n + 128 ^ i * m := by
    rw [BitVec.toNat_or, BitVec.ofInt_natCast, BitVec.ofInt_natCast, BitVec.toNat_ofNat, BitVec.toNat_ofNat]
    rw [show IntKind.i64.bits = 64 from rfl, Nat.mod_eq_of_lt (by omega), Nat.mod_eq_of_lt (by omega)]
    have e2 : 128 ^ i = 2 ^ (7 * i) := by rw [Nat.pow_mul]
    rw [Nat.or_comm, Nat.mul_comm m, e2, ← Nat.two_pow_add_eq_or_of_lt (by rw [← e2]; exact hn)]
    omega
  rw [e]
  have : 128 ^ i * m = m * 128 ^ i := Nat.mul_comm _ _
  rw [w64_eq (by omega) (by omega)]

set_option maxRecDepth 100000 in
theorem number_ok {s : Sl} {l : Str} {Q : Int → Int → Int → AH → Prop} (h : SL.Read ro σ s (l.map vU)) (hl : l.length ≤ 140737488355328) (hQ : Q (num l).1 (num l).2.1 (num l).2.2 σ) : c_wire_Number B ro s 0 σ Q := by
  refine wire_Number_ok fun _ => ?_
  unfold f_wire_Number
  have hln : s.len = l.length := by rw [h.1, List.length_map]
  rw [if_neg (by omega)]
  refine ⟨⟨trivial, by decide, by simp only [cutHi]; omega⟩, ?_⟩
  have e0 : (⟨cutA s.a (Int.toNat 0) s.cap 1, s.len - Int.toNat 0, s.cap - Int.toNat 0⟩ : Sl) = s := by rw [show Int.toNat 0 = 0 from rfl, cutA_zero]; rfl
  suffices ∀ (m i : Nat), i + m = 9 → i ≤ l.length → (∀ j c, j < i → l[j]? = some c → 128 ≤ c.toNat) → lfpD (l2_wire_Number B ro s 0 Q) (((val (l.take i) : Nat) : Int), (i : Int)) σ from
    this 9 0 rfl (Nat.zero_le _) (fun j c h => by omega)
  intro m
  induction m with
  | zero =>
    intro i hi hil hall
    have hi9 : i = 9 := by omega
    subst hi9
    refine lfpD.intro ?_
    unfold l2_wire_Number
    simp only [e0]
    have hnum : num l = (0, 0, if l.length < 9 then 12 else 13) := by unfold num; rw [scan_none_of 9 l hall]
    have hj : j1_wire_Number B ro s 0 Q σ := by
      unfold j1_wire_Number
      rw [Int.sub_zero, w64_eq (by omega) (by omega), if_pos (by omega)]
      rw [hnum, if_neg (by omega)] at hQ
      exact hQ
    by_cases hlt : 9 < l.length
    · rw [if_pos (by omega)]
      have ha : s.a ≠ none := fun hn => by have := h.2.1 hn; simp at this; subst this; simp at hlt
      obtain ⟨p, hs⟩ : ∃ p, s.a = some p := by
        cases hs : s.a with
        | none => exact absurd hs ha
        | some p => exact ⟨p, rfl⟩
      · skip
        refine ⟨p, by rw [show Int.toNat 0 = 0 from rfl, cutA_zero, hs], by decide, by omega, (l[9].toNat : Int), ?_, ?_⟩
        · have := h.2.2 p hs 9 (vU l[9]) (by rw [List.getElem?_map, List.getElem?_eq_getElem hlt]; rfl)
          exact this
        · rw [if_pos (by decide)]; exact hj
    · rw [if_neg (by omega)]; exact hj
  | succ m ih =>
    intro i hi hil hall
    refine lfpD.intro ?_
    unfold l2_wire_Number
    simp only [e0]
    by_cases hlt : i < l.length
    · rw [if_pos (by omega)]
      have ha : s.a ≠ none := fun hn => by have := h.2.1 hn; simp at this; subst this; simp at hlt
      obtain ⟨p, hs⟩ : ∃ p, s.a = some p := by
        cases hs : s.a with
        | none => exact absurd hs ha
        | some p => exact ⟨p, rfl⟩
      · skip
        refine ⟨p, by rw [show Int.toNat 0 = 0 from rfl, cutA_zero, hs], by omega, by omega, (l[i].toNat : Int), ?_, ?_⟩
        · have := h.2.2 p hs i (vU l[i]) (by rw [List.getElem?_map, List.getElem?_eq_getElem hlt]; rfl)
          rw [Int.toNat_natCast, Nat.mul_one]; exact this
        · rw [if_neg (by omega)]
          refine ⟨by rw [w64_eq (by omega) (by omega)]; omega, ?_⟩
          rw [orshift l[i] (by omega) (val_take l i)]
          have hlen : (l.take i).length = i := by simp; omega
          have hval : val (l.take i) + 128 ^ i * (l[i].toNat % 128) = val (l.take (i + 1)) := by
            have e : l.take (i + 1) = l.take i ++ [l[i]] := by rw [List.take_add_one, List.getElem?_eq_getElem hlt]; rfl
            rw [e, val_snoc, hlen]
          rw [hval]
          by_cases hc : l[i].toNat < 128
          · rw [if_pos (by omega)]
            have hscan : scan 9 l = some i := scan_of 9 l i l[i] (by omega) hall (List.getElem?_eq_getElem hlt) hc
            have hz : (l[i]? = some 0) ↔ l[i].toNat = 0 := by
              rw [List.getElem?_eq_getElem hlt]
              refine ⟨fun h => by rw [Option.some.inj h]; rfl, fun h => congrArg some (u8_eq h)⟩
            unfold num at hQ
            rw [hscan] at hQ
            simp only at hQ
            by_cases hz0 : ((l[i].toNat : Int) = 0) ∧ ((0 : Int) < (i : Int))
            · rw [if_pos hz0]
              unfold j7_wire_Number
              rw [if_pos rfl]
              rw [if_pos (.inl ⟨by omega, hz.2 (by omega)⟩)] at hQ
              exact hQ
            · rw [if_neg hz0]
              refine right_ok ?_
              unfold j7_wire_Number
              by_cases hr : 4611686018427387904 ≤ val (l.take (i + 1))
              · rw [if_pos (by simp [rightN]; omega)]
                rw [if_pos (.inr hr)] at hQ
                exact hQ
              · rw [if_neg (by simp [rightN]; omega)]
                rw [if_neg (fun h => by
                  rcases h with ⟨h1, h2⟩ | h
                  · exact hz0 ⟨by rw [hz.1 h2]; rfl, by omega⟩
                  · exact hr h)] at hQ
                rw [Int.zero_add, orshift l[i] (by omega) (val_take l i), hval, w64_eq (n := (i : Int)) (by omega) (by omega), w64_eq (by omega) (by omega)]
                exact hQ
          · rw [if_neg (by omega)]
            rw [Pa.inc i (by omega)]
            refine ih (i + 1) (by omega) (by omega) fun j c hj hjc => ?_
            rcases Nat.lt_or_ge j i with h1 | h1
            · exact hall j c h1 hjc
            · have : j = i := by omega
              subst this
              rw [List.getElem?_eq_getElem hlt] at hjc
              cases hjc; omega
    · rw [if_neg (by omega)]
      have hnone : scan 9 l = none := scan_none_of 9 l fun j c _ hjc => hall j c (by
        rcases Nat.lt_or_ge j l.length with h | h
        · omega
        · rw [List.getElem?_eq_none h] at hjc; cases hjc) hjc
      unfold num at hQ
      rw [hnone] at hQ
      simp only at hQ
      unfold j1_wire_Number
      rw [Int.sub_zero, w64_eq (by omega) (by omega), if_neg (by omega)]
      rw [if_pos (by omega)] at hQ
      exact hQ
end Go.Proofs.YtomdigihapdhnaaGreatDoor.Wi

/- The tree's bytes, the walk; bytes as a string. -/
namespace Go.Proofs.YtomdigihapdhnaaGreatDoor.Zt
open Go Go.Proofs.YtomdigihapdhnaaGreatDoor.SL Go.Proofs.YtomdigihapdhnaaGreatDoor.G Go.Proofs.YtomdigihapdhnaaGreatDoor.Pa Go.Proofs.YtomdigihapdhnaaGreatDoor.Wi
set_option linter.unusedSimpArgs false
set_option linter.unusedVariables false
variable {B : World} {ro σ σ' : AH} {tag tag' : Nat → Nat}

theorem u5'' : Tryz.prog.underlying 5 = some (.int .u8) := by kernel_rfl
theorem forIn_bytes {P : Program} {f : Value → ByteArray → Sem (ForInStep ByteArray)} (hf : ∀ (c : UInt8) (r : ByteArray), f (vU c) r = Sem.pure (.yield (r.push c))) :
    ∀ (l : Str) (s : Str), (forIn (l.map vU) (S s) f : Sem ByteArray) = Sem.pure (S (s ++ l)) := by
  intro l
  induction l with
  | nil => intro s; simp; rfl
  | cons c l ih =>
    intro s
    simp only [List.map_cons, List.forIn_cons]
    rw [hf]
    show (match ForInStep.yield ((S s).push c) with | _ => _ : Sem ByteArray) = _
    have e : (S s).push c = S (s ++ [c]) := by unfold S; simp [ByteArray.push]
    show forIn (l.map vU) ((S s).push c) f = _
    rw [e, ih]
    simp
theorem awp_b2s {s : Sl} {l : Str} {K : Value → AH → Prop} (h : SL.Read ro σ s (l.map vU)) (hK : K (.string (S l)) σ) : awp Tryz.prog ro (convert 24 9 (Sl.v s)) K σ := by
  unfold convert
  simp only [bind_def]
  rw [awp_underlying u30, awp_underlying u9]
  simp only [Sl.v]
  rw [awp_underlying u5'']
  simp only
  unfold Conv.bytesToString
  cases hs : s.a with
  | none =>
    have : l = [] := by have := h.2.1 hs; simpa using this
    subst this
    exact hK
  | some p =>
    simp only
    rw [h.1]
    refine (awp_bind _ _).2 ?_
    refine awp_loadCells (l.map vU) 0 #[] (cellsAt_of 0 fun j v hj => by rw [Nat.zero_add]; exact h.2.2 p hs j v hj) ?_
    simp only [List.nil_append, List.forIn_toArray, Array.empty_append]
    refine (awp_bind _ _).2 ?_
    refine cast (congrArg (fun z => awp Tryz.prog ro z _ σ) (forIn_bytes (P := Tryz.prog) ?_ l [])).symm ?_
    · intro c r
      simp only [vU]
      show Sem.pure (ForInStep.yield (r.push (UInt8.ofNat (Int.toNat (c.toNat : Int))))) = _
      rw [Int.toNat_natCast]; simp
    · exact hK
set_option maxRecDepth 100000 in
theorem same_ok {a b : Sl} {x y : Str} {Q : Bool → AH → Prop} (ha : SL.Read ro σ a (x.map vU)) (hb : SL.Read ro σ b (y.map vU)) (hQ : Q (decide (x = y)) σ) : c_ref01_Same B ro a b σ Q := by
  refine ref01_Same_ok fun _ => ?_
  unfold f_ref01_Same
  refine awp_b2s ha ⟨S x, rfl, awp_b2s hb ⟨S y, rfl, ?_⟩⟩
  rw [show decide (S x = S y) = decide (x = y) from by simp only [S_inj]]
  exact hQ

/-! what a writer holds behind nodes -/
end Go.Proofs.YtomdigihapdhnaaGreatDoor.Zt

/- The wire, the walk: a reader's calls. -/
namespace Go.Proofs.YtomdigihapdhnaaGreatDoor.Wi
open Go Go.Proofs.YtomdigihapdhnaaGreatDoor.SL Go.Proofs.YtomdigihapdhnaaGreatDoor.G Go.Proofs.YtomdigihapdhnaaGreatDoor.Zt
set_option linter.unusedSimpArgs false
set_option linter.unusedVariables false
variable {B : World} {ro σ σ' : AH} {tag tag' : Nat → Nat}

/-- the end of a row of bytes -/
def Tail (tag : Nat → Nat) (σ : AH) (q : Nat) (s : Sl) (l : Str) : Prop :=
  (s = ⟨none, 0, 0⟩ ∧ l = []) ∨ ∃ (g : Nat) (cs : Array Value) (k : Nat), s.a = some ⟨g, k, none⟩ ∧ tag g = q ∧ σ g = some (.cells cs 5) ∧ s.len = l.length ∧ s.len ≤ s.cap ∧ ∀ (i : Nat) (c : UInt8), l[i]? = some c → cs[k + i]? = some (vU c)
theorem Tail.len {q : Nat} {s : Sl} {l : Str} (h : Tail tag σ q s l) : s.len = l.length := by
  rcases h with ⟨rfl, rfl⟩ | ⟨_, _, _, _, _, _, h, _⟩
  · rfl
  · exact h
theorem Tail.cap {q : Nat} {s : Sl} {l : Str} (h : Tail tag σ q s l) : s.len ≤ s.cap := by
  rcases h with ⟨rfl, rfl⟩ | ⟨_, _, _, _, _, _, _, h, _⟩
  · exact Nat.le_refl _
  · exact h
theorem Tail.keep {R : List Nat} {q : Nat} {s : Sl} {l : Str} (h : Tail tag σ q s l) (k : Step R ro tag σ tag' σ') (hr : q ∉ R) : Tail tag' σ' q s l := by
  rcases h with h | ⟨g, cs, o, ha, ht, hb, hx⟩
  · exact .inl h
  · obtain ⟨t, e⟩ := k.keep g _ hb (by rw [ht]; exact hr)
    exact .inr ⟨g, cs, o, ha, t.trans ht, e, hx⟩
theorem Tail.of_row {q : Nat} {s : Sl} {l : Str} (h : Row tag σ q 5 s (l.map vU)) : Tail tag σ q s l := by
  rcases h with ⟨rfl, h⟩ | ⟨b, cs, ha, ht, hb, hln, hc, hle, hg⟩
  · exact .inl ⟨rfl, by simpa using h⟩
  · refine .inr ⟨b, cs, 0, ha, ht, hb, by rw [hln, List.length_map], hle, fun i c hi => ?_⟩
    have hil : i < l.length := by
      rcases Nat.lt_or_ge i l.length with h | h
      · exact h
      · rw [List.getElem?_eq_none h] at hi; cases hi
    rw [Nat.zero_add, hg i (by simpa using hil), List.getElem?_map, hi]; rfl
theorem Tail.read {q : Nat} {s : Sl} {l : Str} (h : Tail tag σ q s l) (hs : SL.Sep ro σ) : SL.Read ro σ s (l.map vU) := by
  refine ⟨by rw [h.len, List.length_map], fun hn => ?_, fun p hp i v hv => ?_⟩
  · rcases h with ⟨_, rfl⟩ | ⟨_, _, _, ha, _⟩
    · rfl
    · rw [hn] at ha; cases ha
  · rcases h with ⟨rfl, _⟩ | ⟨g, cs, k, ha, ht, hb, hln, hle, hg⟩
    · cases hp
    · rw [hp] at ha; cases ha
      rw [List.getElem?_map] at hv
      obtain ⟨c, hc, rfl⟩ := Option.map_eq_some_iff.1 hv
      unfold acell rd
      simp only [add_add, hs g _ hb, hb, cellOf]
      exact hg i c hc
theorem Tail.drop {q e : Nat} {s : Sl} {l : Str} (h : Tail tag σ q s l) (he : e ≤ l.length) : Tail tag σ q ⟨cutA s.a e s.cap 1, s.len - e, s.cap - e⟩ (l.drop e) := by
  rcases h with ⟨rfl, rfl⟩ | ⟨g, cs, k, ha, ht, hb, hln, hle, hg⟩
  · have : e = 0 := by simpa using he
    subst this
    exact .inl ⟨by simp [cutA], rfl⟩
  · unfold cutA
    by_cases hc : s.cap = e
    · rw [if_pos hc]
      refine .inr ⟨g, cs, k, ha, ht, hb, by simp; omega, by simp; omega, fun i c hi => ?_⟩
      rw [List.drop_of_length_le (by omega)] at hi; cases hi
    · rw [if_neg hc]
      refine .inr ⟨g, cs, k + e, by simp [ha, add_add], ht, hb, by simp; omega, by simp; omega, fun i c hi => ?_⟩
      rw [List.getElem?_drop] at hi
      rw [Nat.add_assoc]; exact hg (e + i) c hi
theorem Tail.takeR {q n : Nat} {s : Sl} {l : Str} (h : Tail tag σ q s l) (hs : SL.Sep ro σ) (hn : n ≤ l.length) : SL.Read ro σ ⟨cutA s.a 0 s.cap 1, n - 0, s.cap - 0⟩ ((l.take n).map vU) := by
  have hr := h.read hs
  rw [cutA_zero]
  refine ⟨by simp; omega, fun ha => ?_, fun p hp i v hv => ?_⟩
  · have := hr.2.1 ha
    have : l = [] := by simpa using this
    rw [this]; simp
  · refine hr.2.2 p hp i v ?_
    rw [List.map_take, List.getElem?_take] at hv
    split at hv
    · exact hv
    · cases hv
/-- a reader at A, of the role r -/
def RdAt (tag : Nat → Nat) (σ : AH) (r A : Nat) (x : Rd) : Prop :=
  ∃ s : Sl, Row tag σ r 231 ⟨some ⟨A, 0, none⟩, 2, 2⟩ [Sl.v s, Zt.vI x.err] ∧ Tail tag σ 6 s x.rest ∧ x.rest.length ≤ 140737488355328
theorem RdAt.keep {R : List Nat} {r A : Nat} {x : Rd} (h : RdAt tag σ r A x) (k : Step R ro tag σ tag' σ') (h1 : r ∉ R) (h2 : 6 ∉ R) : RdAt tag' σ' r A x := by
  obtain ⟨s, a, b, c⟩ := h
  exact ⟨s, a.keep k h1, b.keep k h2, c⟩
theorem RdAt.keepC {c r A : Nat} {x : Rd} (h : RdAt tag σ r A x) (k : StepC c ro tag σ tag' σ') (hr : r % 64 ≠ c) (h6 : c ≠ 6) : RdAt tag' σ' r A x := by
  obtain ⟨R, h1, h2⟩ := k
  exact h.keep h2 (fun m => hr (h1 _ m)) (fun m => h6 (h1 _ m).symm)
set_option maxRecDepth 100000 in
theorem newReader_ok {r : Nat} {a : Sl} {b : Str} {Q : Option Addr → AH → Prop} (h : SL.Read ro σ a (b.map vU)) (hs : SL.Sep ro σ) (hl : b.length ≤ 140737488355328) (hQ : ∀ A tag' σ', (∀ R, Step R ro tag σ tag' σ') → RdAt tag' σ' r A ⟨b, 0⟩ → Q (some ⟨A, 0, none⟩) σ') :
    c_wire_NewReader B ro a σ Q := by
  refine wire_NewReader_ok fun _ => ?_
  unfold f_wire_NewReader
  refine clone_ok (tag := tag) h hs (by simp; omega) (vU_st _) fun s tag1 σ1 st1 r1 => ?_
  refine nw_cells (tag := tag1) r (st1 []).sep fun A tag2 σ2 st2 r2 => ?_
  exact hQ A tag2 σ2 (fun R => (st1 R).trans (st2 R)) ⟨s, r2, Tail.of_row (r1.keep (st2 []) (by simp)), hl⟩
theorem left_ok {r A : Nat} {x : Rd} {Q : Int → AH → Prop} (h : RdAt tag σ r A x) (hs : SL.Sep ro σ) (hQ : Q (x.rest.length : Nat) σ) : c_wire_Reader_Left B ro (some ⟨A, 0, none⟩) σ Q := by
  refine wire_Reader_Left_ok fun _ => ?_
  unfold f_wire_Reader_Left
  obtain ⟨s, a, b, c⟩ := h
  obtain ⟨p, hp, hg⟩ := a.ptr hs (by simp)
  cases hp
  refine ⟨_, rfl, s, hg 0 _ rfl, ?_⟩
  rw [b.len]; exact hQ
theorem rerr_ok {r A : Nat} {x : Rd} {Q : Int → AH → Prop} (h : RdAt tag σ r A x) (hs : SL.Sep ro σ) (hQ : Q x.err σ) : c_wire_Reader_Err B ro (some ⟨A, 0, none⟩) σ Q := by
  refine wire_Reader_Err_ok fun _ => ?_
  unfold f_wire_Reader_Err
  obtain ⟨s, a, b, c⟩ := h
  obtain ⟨p, hp, hg⟩ := a.ptr hs (by simp)
  cases hp
  exact ⟨_, rfl, x.err, hg 1 _ rfl, hQ⟩
set_option maxRecDepth 100000 in
theorem rdNum_ok {r A : Nat} {x : Rd} {Q : Int → AH → Prop} (h : RdAt tag σ r A x) (h6 : r ≠ 6) (hs : SL.Sep ro σ) (hQ : ∀ σ', Step [r] ro tag σ tag σ' → RdAt tag σ' r A (rnum x).2 → Q ((rnum x).1 : Nat) σ') : c_wire_Reader_Num B ro (some ⟨A, 0, none⟩) σ Q := by
  refine wire_Reader_Num_ok fun _ => ?_
  unfold f_wire_Reader_Num
  obtain ⟨s, a, b, c⟩ := id h
  obtain ⟨p, hp, hg⟩ := a.ptr hs (by simp)
  cases hp
  refine ⟨_, rfl, x.err, hg 1 _ rfl, ?_⟩
  by_cases he : x.err = 0
  · rw [if_neg (by simpa using he)]
    refine ⟨_, rfl, s, hg 0 _ rfl, ?_⟩
    refine number_ok (b.read hs) c ?_
    have hrn : rnum x = ((num x.rest).1, ⟨x.rest.drop (num x.rest).2.1, (num x.rest).2.2⟩) := by unfold rnum; rw [if_neg (by simpa using he)]
    rw [hrn] at hQ
    have hle := num_le x.rest
    have hln := b.len
    have hcp := b.cap
    refine ⟨_, rfl, ?_⟩
    refine a.st (i := 1) hs rfl (by simp) rfl fun σ1 st1 r1 => ?_
    obtain ⟨p1, hp1, hg1⟩ := r1.ptr st1.sep (by simp)
    cases hp1
    refine ⟨_, rfl, s, hg1 0 _ rfl, ⟨trivial, by omega, by simp only [cutHi]; omega⟩, _, rfl, ?_⟩
    rw [Int.toNat_natCast]
    refine r1.st (i := 0) st1.sep rfl (by simp) rfl fun σ2 st2 r2 => ?_
    refine hQ σ2 (st1.trans st2) ⟨_, r2, ((b.drop hle.1).keep st1 (by simpa using fun h => h6 h.symm)).keep st2 (by simpa using fun h => h6 h.symm), by simp; omega⟩
  · rw [if_pos (by simpa using he)]
    rw [rnum_bad he] at hQ
    exact hQ σ (Step.refl hs) h
set_option maxRecDepth 100000 in
theorem rdBlob_ok {r A : Nat} {x : Rd} {Q : Sl → AH → Prop} (h : RdAt tag σ r A x) (h6 : r ≠ 6) (hs : SL.Sep ro σ)
    (hQ : ∀ s tag' σ', Step [r] ro tag σ tag' σ' → Row tag' σ' 6 5 s ((rblob x).1.map vU) → RdAt tag' σ' r A (rblob x).2 → Q s σ') : c_wire_Reader_Blob B ro (some ⟨A, 0, none⟩) σ Q := by
  refine wire_Reader_Blob_ok fun _ => ?_
  unfold f_wire_Reader_Blob
  obtain ⟨s, a, b, c⟩ := id h
  obtain ⟨p, hp, hg⟩ := a.ptr hs (by simp)
  cases hp
  refine ⟨_, rfl, s, hg 0 _ rfl, ?_⟩
  refine rdNum_ok h h6 hs fun σ1 st1 h1 => ?_
  have h61 : 6 ∉ [r] := by simpa using fun h => h6 h.symm
  obtain ⟨s1, a1, b1, c1⟩ := id h1
  obtain ⟨p1, hp1, hg1⟩ := a1.ptr st1.sep (by simp)
  cases hp1
  refine ⟨_, rfl, _, hg1 1 _ rfl, ?_⟩
  by_cases he : (rnum x).2.err = 0
  · rw [if_neg (by simpa using he)]
    refine ⟨_, rfl, s1, hg1 0 _ rfl, ?_⟩
    have hln1 := b1.len
    have hcp1 := b1.cap
    by_cases hlt : (rnum x).2.rest.length < (rnum x).1
    · rw [if_pos (by omega)]
      have hrb : rblob x = ([], ⟨x.rest, 12⟩) := by unfold rblob; rw [if_neg (by simpa using he), if_pos hlt]
      rw [hrb] at hQ
      refine ⟨_, rfl, ?_⟩
      refine a1.st (i := 1) st1.sep rfl (by simp) rfl fun σ2 st2 r2 => ?_
      refine ⟨_, rfl, ?_⟩
      refine r2.st (i := 0) st2.sep rfl (by simp) rfl fun σ3 st3 r3 => ?_
      exact hQ ⟨none, 0, 0⟩ tag σ3 (st1.trans (st2.trans st3)) (Row.nil 6 5) ⟨s, r3, ((b.keep st1 h61).keep st2 h61).keep st3 h61, c⟩
    · rw [if_neg (by omega)]
      have hrb : rblob x = ((rnum x).2.rest.take (rnum x).1, ⟨(rnum x).2.rest.drop (rnum x).1, 0⟩) := by unfold rblob; rw [if_neg (by simpa using he), if_neg hlt]
      rw [hrb] at hQ
      refine ⟨_, rfl, s1, hg1 0 _ rfl, ⟨⟨by omega, by omega⟩, trivial⟩, ?_⟩
      rw [Int.toNat_natCast]
      refine clone_ok (tag := tag) (b1.takeR st1.sep (by omega)) st1.sep (by simp; omega) (vU_st _) fun s2 tag2 σ2 st2 r2 => ?_
      have a2 := a1.keep (st2 []) (by simp)
      obtain ⟨p2, hp2, hg2⟩ := a2.ptr (st2 []).sep (by simp)
      cases hp2
      refine ⟨_, rfl, s1, hg2 0 _ rfl, ⟨trivial, by omega, by simp only [cutHi]; omega⟩, _, rfl, ?_⟩
      refine a2.st (i := 0) (st2 []).sep rfl (by simp) rfl fun σ3 st3 r3 => ?_
      rw [he] at r3
      refine hQ s2 tag2 σ3 (st1.trans ((st2 _).trans st3)) (r2.keep st3 h61) ⟨_, r3, ((b1.drop (by omega)).keep (st2 []) (by simp)).keep st3 h61, by simp; omega⟩
  · rw [if_pos (by simpa using he)]
    have hrb : rblob x = ([], (rnum x).2) := by unfold rblob; rw [if_pos (by simpa using he)]
    rw [hrb] at hQ
    exact hQ ⟨none, 0, 0⟩ tag σ1 st1 (Row.nil 6 5) h1
set_option maxRecDepth 100000 in
theorem rdText_ok {r A : Nat} {x : Rd} {Q : ByteArray → AH → Prop} (h : RdAt tag σ r A x) (h6 : r ≠ 6) (hs : SL.Sep ro σ)
    (hQ : ∀ tag' σ', Step [r] ro tag σ tag' σ' → RdAt tag' σ' r A (rblob x).2 → Q (S (rblob x).1) σ') : c_wire_Reader_Text B ro (some ⟨A, 0, none⟩) σ Q := by
  refine wire_Reader_Text_ok fun _ => ?_
  unfold f_wire_Reader_Text
  refine rdBlob_ok h h6 hs fun s tag1 σ1 st1 r1 h1 => ?_
  exact awp_b2s (r1.read st1.sep) ⟨_, rfl, hQ tag1 σ1 st1 h1⟩
end Go.Proofs.YtomdigihapdhnaaGreatDoor.Wi

/- The tree that bytes tell, the walk: Decode. -/
namespace Go.Proofs.YtomdigihapdhnaaGreatDoor.Zt
open Go Go.Proofs.YtomdigihapdhnaaGreatDoor.SL Go.Proofs.YtomdigihapdhnaaGreatDoor.G Go.Proofs.YtomdigihapdhnaaGreatDoor.Pa Go.Proofs.YtomdigihapdhnaaGreatDoor.Wi
set_option linter.unusedSimpArgs false
set_option linter.unusedVariables false
variable {B : World} {ro σ σ' : AH} {tag tag' : Nat → Nat}

theorem TreeIs.keepS {C : List Nat} {r T : Nat} {st : St} (h : TreeIs tag σ r T st) (k : StepS C ro tag σ tag' σ') (hr : r % 64 ∉ C) (h6 : 6 ∉ C) : TreeIs tag' σ' r T st := by
  obtain ⟨R, h1, h2⟩ := k
  exact h.keep h2 fun x hx => ⟨fun e => hr (by rw [← e]; exact h1 x hx), fun e => h6 (by have := h1 x hx; rw [e] at this; exact this)⟩
end Go.Proofs.YtomdigihapdhnaaGreatDoor.Zt

/- What homes hold: the pure part. -/
namespace Go.Proofs.YtomdigihapdhnaaGreatDoor.Zt
open Go Go.Proofs.YtomdigihapdhnaaGreatDoor.SL Go.Proofs.YtomdigihapdhnaaGreatDoor.Pa
set_option linter.unusedSimpArgs false
set_option linter.unusedVariables false

def homeOf (p : Str) : Option Str := match parts p with
  | some (x :: _) => some x
  | _ => none
end Go.Proofs.YtomdigihapdhnaaGreatDoor.Zt

/- One change of several, the pure part. -/
namespace Go.Proofs.YtomdigihapdhnaaGreatDoor.Zt
open Go Go.Proofs.YtomdigihapdhnaaGreatDoor.SL Go.Proofs.YtomdigihapdhnaaGreatDoor.Pa
set_option linter.unusedSimpArgs false
set_option linter.unusedVariables false

structure MOp where
  kind : Int
  path : Str
  data : Str
  ver : Int
  eph : Bool
  seq : Bool
end Go.Proofs.YtomdigihapdhnaaGreatDoor.Zt

/- One change of several, the walk: within, do. -/
namespace Go.Proofs.YtomdigihapdhnaaGreatDoor.Zt
open Go Go.Proofs.YtomdigihapdhnaaGreatDoor.SL Go.Proofs.YtomdigihapdhnaaGreatDoor.G Go.Proofs.YtomdigihapdhnaaGreatDoor.Pa
set_option linter.unusedSimpArgs false
set_option linter.unusedVariables false
variable {B : World} {ro σ σ' : AH} {tag tag' : Nat → Nat}

theorem RowW.keepS {C : List Nat} {r : Nat} {e : TypeId} {w : Nat} {s : Sl} {l : List (List Value)} (h : RowW tag σ r e w s l) (k : StepS C ro tag σ tag' σ') (hr : r % 64 ∉ C) : RowW tag' σ' r e w s l := by
  obtain ⟨R, h1, h2⟩ := k
  exact h.keep h2 fun m => hr (h1 _ m)
theorem Row.cellsAt {r : Nat} {e : TypeId} {b n c : Nat} {l : List Value} (h : Row tag σ r e ⟨some ⟨b, 0, none⟩, n, c⟩ l) (hs : SL.Sep ro σ) : SL.cellsAt ro σ ⟨b, 0, none⟩ 0 l := by
  rcases Nat.eq_zero_or_pos l.length with h0 | h0
  · rw [List.eq_nil_of_length_eq_zero h0]; trivial
  · obtain ⟨p, hp, hg⟩ := h.ptr hs h0
    cases hp
    exact cellsAt_of 0 fun i v hv => by rw [Nat.zero_add]; have := hg i v hv; rwa [Nat.mul_one] at this
theorem Row.readW1 {r w : Nat} {e : TypeId} {b n c : Nat} {l : List Value} (h : Row tag σ r e ⟨some ⟨b, 0, none⟩, n, c⟩ l) (hs : SL.Sep ro σ) (hw : l.length = w) (h0 : 0 < w) : SL.ReadW ro σ w ⟨some ⟨b, 0, none⟩, 1, 1⟩ [l] := by
  obtain ⟨p, hp, hg⟩ := h.ptr hs (by omega)
  cases hp
  refine ⟨rfl, (fun h => by cases h), fun x hx => by rw [List.mem_singleton.1 hx]; exact hw, fun p hp i v hv => ?_⟩
  cases hp
  have := hg i v (by simpa using hv)
  rwa [Nat.mul_one] at this

/-- what is being done, in memory -/
def resV (r : Str × Int) : List Value := [Pa.vS r.1, vI r.2]
def effV (e : Int × Str) : List Value := [vI e.1, Pa.vS e.2]
structure WorkAt (tag : Nat → Nat) (σ : AH) (W T : Nat) (home : Str) (owner qn qb : Int) (res : List (Str × Int)) (eff : List (Int × Str)) : Prop where
  mem : ∃ rs es : Sl, Row tag σ 13 410 ⟨some ⟨W, 0, none⟩, 8, 8⟩ [Sl.v rs, Sl.v es, vI 0, ptr T, Pa.vS home, vI owner, vI qn, vI qb] ∧ RowW tag σ 14 128 2 rs (res.map resV) ∧ RowW tag σ 15 336 2 es (eff.map effV)
theorem WorkAt.keepS {C : List Nat} {W T : Nat} {home : Str} {owner qn qb : Int} {res : List (Str × Int)} {eff : List (Int × Str)} (h : WorkAt tag σ W T home owner qn qb res eff) (k : StepS C ro tag σ tag' σ') (h3 : 13 ∉ C) (h4 : 14 ∉ C) (h5 : 15 ∉ C) : WorkAt tag' σ' W T home owner qn qb res eff := by
  obtain ⟨rs, es, a, b, c⟩ := h.mem
  exact ⟨rs, es, a.keepS k h3, RowW.keepS b k h4, RowW.keepS c k h5⟩
end Go.Proofs.YtomdigihapdhnaaGreatDoor.Zt

/- A range over a function, first part: code within a round of such a loop, or behind it (deferred marks), by what it owns. Generic over any program. -/
namespace Go.Proofs.YtomdigihapdhnaaGreatDoor.SL
open Go

/-- A fence that lets all in: the wide one, or it within a round. -/
structure Open (F : Fence) : Prop where
  fn : ∀ f, F.fn f
  depth : F.depth = none
  calls : ∀ {P : Program} {n : Nat} {f : FuncId} {args : Array Value} {w : World} {R : Ending → World → Prop}, Calls P f args w R → CallsIn F n P f args w R
theorem Open.wide : Open Fence.wide := ⟨fun _ => trivial, rfl, fun h => callsIn_wide.2 h⟩
structure FitsD (N : Nat) (ds : List Deferred) (fr : Fr) (a : Act) : Prop where
  size : a.tmps.size = N
  defers : a.defers = ds
  has : ∀ i v, look fr i = some v → a.tmps[i]? = some v
theorem Fits.d {N : Nat} {fr : Fr} {a : Act} (h : Fits N fr a) : FitsD N [] fr a := ⟨h.size, h.defers, h.has⟩
theorem FitsD.agrees {N : Nat} {ds : List Deferred} {fr : Fr} {a : Act} (h : FitsD N ds fr a) : Agrees a.eval fr := by
  have h' : Fits N fr { a with defers := [] } := ⟨h.size, rfl, h.has⟩
  intro x v hx
  exact h'.agrees x v hx
theorem FitsD.put {N : Nat} {ds : List Deferred} {fr : Fr} {a : Act} (h : FitsD N ds fr a) {d : Option Tmp} (hd : dstOk N d = true) (v : Value) : FitsD N ds (putF d v fr) (a.put d v) := by
  have h' : Fits N fr { a with defers := [] } := ⟨h.size, rfl, h.has⟩
  have k := h'.put hd v
  cases d with
  | none => exact h
  | some d => exact ⟨k.size, h.defers, k.has⟩
theorem FitsD.weaken {N : Nat} {ds : List Deferred} {fr fr' : Fr} {a : Act} (h : FitsD N ds fr' a) (hl : FrLe fr fr') : FitsD N ds fr a := ⟨h.size, h.defers, fun i v e => h.has i v (hl i v e)⟩

def liftD (B : World) (ro : AH) (N : Nat) (ds : List Deferred) (φ : AH) (Q : Exit → Fr → AH → Prop) (e : Exit) (a : Act) (w : World) : Prop := ∃ fr σ, Q e fr σ ∧ Own B ro φ σ w ∧ FitsD N ds fr a

section
variable {F : Fence} {n : Nat} {P : Program} {B : World} {ro : AH} {N : Nat} {ds : List Deferred}

def noDefer (o : Oper) : Bool := match o.op with
  | .defer _ => false
  | _ => true
theorem AExec.soundIn {o : Oper} {K : Fr → AH → Prop} {fr : Fr} {σ φ : AH} {a : Act} {w : World} {next : Act → World → Prop} {Q : Exit → Act → World → Prop}
    (hF : Open F) (hnd : noDefer o = true) (h : AExec P B ro o K fr σ) (hd : dstOk N o.dst = true) (ho : Own B ro φ σ w) (hf : FitsD N ds fr a)
    (hk : ∀ fr σ a w, K fr σ → Own B ro φ σ w → FitsD N ds fr a → next a w) : o.wpIn F n P a w next Q := by
  obtain ⟨x, w', σ', hr, hq, ho'⟩ := awp_sound _ (h _ hf.agrees) ho
  refine ⟨fun f _ => hF.fn f, ?_⟩
  rw [Oper.semAt_eq _ _ _ (fun c e => by unfold noDefer at hnd; rw [e] at hnd; cases hnd), hr]
  cases x with
  | value v => exact hk _ _ _ _ hq ho' (hf.put hd v)
  | skip => exact hk _ _ _ _ hq ho' (hf.put hd undef)
  | enter f args =>
    refine ⟨fun e => (by rw [hF.depth] at e; cases e), hF.calls ?_⟩
    refine (hq φ w' ho').mono ?_
    rintro e w2 ⟨v, σ2, rfl, hq2, ho2⟩
    exact hk _ _ _ _ hq2 ho2 (hf.put hd v)
  | _ => exact hq.elim

theorem yielded_eqD {fr : Fr} {a : Act} (hf : FitsD N ds fr a) {ops : Array Oper} {j t : Nat} {v : Value} (ht : (ops[j]?).bind (·.dst) = some t) (hl : look fr t = some v) :
    yielded ops a.tmps j = match v with | .bool b => some b | _ => none :=
  yielded_eq (N := N) (a := { a with defers := [] }) ⟨hf.size, rfl, hf.has⟩ ht hl

theorem AOps.soundIn (hF : Open F) {ops : Array Oper} {Q : Exit → Fr → AH → Prop} {φ : AH} (hnd : ∀ (i : Nat) (o : Oper), ops[i]? = some o → noDefer o = true) (l : List Nat) : ∀ {fr : Fr} {σ : AH} {a : Act} {w : World},
    AOps P B ro N ops (Q .normal) l fr σ → Own B ro φ σ w → FitsD N ds fr a → wpOpsIn F n P ops (liftD B ro N ds φ Q) l a w := by
  induction l with
  | nil => intro fr σ a w h ho hf; exact ⟨fr, σ, h, ho, hf⟩
  | cons i rest ih =>
    intro fr σ a w h ho hf
    simp only [AOps] at h
    simp only [wpOpsIn]
    cases hi : ops[i]? with
    | none => rw [hi] at h; exact ih h ho hf
    | some o =>
      rw [hi] at h
      obtain ⟨hd, h⟩ := h
      dsimp only
      cases hg : o.guard with
      | none =>
        rw [hg] at h
        have hw : Region.wanted o (yielded ops a.tmps) = true := by simp [Region.wanted, hg]
        rw [if_pos hw]
        exact AExec.soundIn hF (hnd i o hi) h hd ho hf fun fr σ a w hk ho hf => ih hk ho hf
      | some g =>
        obtain ⟨j, want⟩ := g
        rw [hg] at h
        obtain ⟨t, v, ht, hl, h⟩ := h
        have hy := yielded_eqD hf ht hl
        rcases h with ⟨rfl, h⟩ | ⟨hv, h⟩
        · have hw : Region.wanted o (yielded ops a.tmps) = true := by simp [Region.wanted, hg, hy]
          rw [if_pos hw]
          exact AExec.soundIn hF (hnd i o hi) h hd ho hf fun fr σ a w hk ho hf => ih hk ho hf
        · have hw : ¬ Region.wanted o (yielded ops a.tmps) = true := by
            simp only [Region.wanted, hg, hy]
            cases v <;> simp
            rename_i b; intro e; subst e; exact hv rfl
          rw [if_neg hw]
          exact ⟨fun f _ => hF.fn f, ih h ho (hf.put hd undef)⟩
end

/-! ### Code within a round, or behind the loop -/
def AWF (F : Fence) (n : Nat) (ds : List Deferred) (P : Program) (B : World) (ro : AH) (N : Nat) (c : Code) (Q : Exit → Fr → AH → Prop) (fr : Fr) (σ : AH) : Prop :=
  ∀ φ w a, Own B ro φ σ w → FitsD N ds fr a → c.wpIn F n P (liftD B ro N ds φ Q) a w
section
variable {F : Fence} {n : Nat} {ds : List Deferred} {P : Program} {B : World} {ro : AH} {N : Nat} {Q : Exit → Fr → AH → Prop} {fr : Fr} {σ : AH}
theorem AWF.skip (h : Q .normal fr σ) : AWF F n ds P B ro N .skip Q fr σ := fun _ _ _ ho hf => wpIn_skip ⟨fr, σ, h, ho, hf⟩
theorem AWF.ret (h : Q .ret fr σ) : AWF F n ds P B ro N .ret Q fr σ := fun _ _ _ ho hf => wpIn_ret ⟨fr, σ, h, ho, hf⟩
theorem AWF.exit {id : Nat} (h : Q (.exit id) fr σ) : AWF F n ds P B ro N (.exit id) Q fr σ := fun _ _ _ ho hf => wpIn_exit ⟨fr, σ, h, ho, hf⟩
theorem AWF.seq {x y : Code} (h : AWF F n ds P B ro N x (thenQ (AWF F n ds P B ro N y Q) Q) fr σ) : AWF F n ds P B ro N (.seq x y) Q fr σ := by
  intro φ w a ho hf
  refine wpIn_seq (wpIn_mono (h φ w a ho hf) ?_)
  rintro e a' w' ⟨fr', σ', hq, ho', hf'⟩
  cases e with
  | normal => exact hq φ w' a' ho' hf'
  | _ => exact ⟨fr', σ', hq, ho', hf'⟩
theorem AWF.cond {c : Operand} {x y : Code} {b : Bool} (hc : evalF fr c = some (.bool b)) (ht : b = true → AWF F n ds P B ro N x Q fr σ) (hn : b = false → AWF F n ds P B ro N y Q fr σ) : AWF F n ds P B ro N (.cond c x y) Q fr σ :=
  fun φ w a ho hf => wpIn_cond_split (hf.agrees _ _ hc) (fun e => ht e φ w a ho hf) (fun e => hn e φ w a ho hf)
theorem AWF.block {id : Nat} {c : Code} (h : AWF F n ds P B ro N c (blockQ id Q) fr σ) : AWF F n ds P B ro N (.block id c) Q fr σ := by
  intro φ w a ho hf
  refine wpIn_block (wpIn_mono (h φ w a ho hf) ?_)
  rintro e a' w' ⟨fr', σ', hq, ho', hf'⟩
  cases e with
  | exit id' =>
    simp only [blockQ] at hq
    simp only [Exit.inBlock]
    split
    · rename_i e; rw [if_pos e] at hq; exact ⟨fr', σ', hq, ho', hf'⟩
    · rename_i e; rw [if_neg e] at hq; exact ⟨fr', σ', hq, ho', hf'⟩
  | _ => exact ⟨fr', σ', hq, ho', hf'⟩
theorem AWF.reg (hF : Open F) {id : Nat} {ops : Array Oper} (hnd : ops.toList.all noDefer = true) (h : AOpsL P B ro N ops (wk (Q .normal)) ops.toList fr σ) : AWF F n ds P B ro N (.region id ops false) Q fr σ := by
  intro φ w a ho hf
  have h1 : AOps P B ro N ops ((fun e => wk (Q e)) .normal) (List.range ops.size) fr σ := by
    rw [List.range_eq_range']
    exact AOps_of_L ops.size 0 (by omega) h
  refine wpIn_mono (wpIn_region (AOps.soundIn hF (Q := fun e => wk (Q e)) (fun i o hi => ?_) _ h1 ho hf)) ?_
  · have := List.all_eq_true.1 hnd o (by
      rw [Array.getElem?_eq_some_iff] at hi
      obtain ⟨hlt, rfl⟩ := hi
      simp)
    exact this
  · rintro e a' w' ⟨fr', σ', ⟨fr0, h1, h2⟩, h3, h4⟩
    exact ⟨fr0, σ', h2, h3, h4.weaken h1⟩
theorem AWF.weaken {c : Code} {fr' : Fr} {σ' : AH} (h : AWF F n ds P B ro N c Q fr' σ') (hf : FrLe fr' fr) (hl : HLe σ' σ) : AWF F n ds P B ro N c Q fr σ :=
  fun φ w a ho ha => h φ w a (ho.drop hl) (ha.weaken hf)
theorem AWF.mono {c : Code} {Q' : Exit → Fr → AH → Prop} (h : AWF F n ds P B ro N c Q fr σ) (hq : ∀ e fr σ, Q e fr σ → Q' e fr σ) : AWF F n ds P B ro N c Q' fr σ :=
  fun φ w a ho ha => wpIn_mono (h φ w a ho ha) fun _ _ _ ⟨fr, σ, h1, h2, h3⟩ => ⟨fr, σ, hq _ _ _ h1, h2, h3⟩
end
end Go.Proofs.YtomdigihapdhnaaGreatDoor.SL

/- A range over a function, second part: the loop itself, and a function that holds one. Generic over any program. -/
namespace Go.Proofs.YtomdigihapdhnaaGreatDoor.SL
open Go

section
variable {n : Nat} {P : Program} {B : World} {ro φ σ : AH} {N : Nat}

/-- All that is not owned is framed. -/
def allBut (w : World) (σ : AH) : AH := fun b => match σ b with
  | some _ => none
  | none => w.heap[b]?
theorem Own.all {w : World} (h : Own B ro φ σ w) : Own B ro (allBut w σ) σ w := by
  refine ⟨h.os, h.tape, h.output, fun b o e => ?_, fun b o e => ?_, h.ro⟩
  · obtain ⟨h1, _, h3⟩ := h.own b o e
    exact ⟨h1, by simp [allBut, e], h3⟩
  · unfold allBut at e
    split at e
    · cases e
    · exact e
end
end Go.Proofs.YtomdigihapdhnaaGreatDoor.SL

/- slices.Backward over strings: the closure's contract (after the guide's worked example on slices.All). -/
namespace Go.Proofs.YtomdigihapdhnaaGreatDoor.Back
open Go Go.RowKit Go.Shelf

attribute [local go_sem] Oper.semAt_some

/-- What has come when k rounds are over. -/
def upto {α : Type} (f : Nat → α) (k : Nat) : List α := (List.range k).map f
def Kp (ks : List Nat) (W W' : World) : Prop := ∀ k ∈ ks, W'.heap[k]? = W.heap[k]?
theorem Kp.refl (ks : List Nat) (W : World) : Kp ks W W := fun _ _ => rfl
theorem Kp.trans {ks : List Nat} {A B C : World} (h : Kp ks A B) (h' : Kp ks B C) : Kp ks A C := fun k hk => (h' k hk).trans (h k hk)
theorem Kp.cell {ks : List Nat} {A B : World} (h : Kp ks A B) {p : Addr} (hp : p.block ∈ ks) : B.cell? p = A.cell? p := World.cell?_of_block (h _ hp)

end Go.Proofs.YtomdigihapdhnaaGreatDoor.Back

/- multi.Sweep: the walk (its lines are gen.py's; the loop by RfB and RfC). -/
namespace Go.Proofs.YtomdigihapdhnaaGreatDoor.G
open Go Go.Proofs.YtomdigihapdhnaaGreatDoor.SL
set_option linter.unusedVariables false
set_option linter.unusedSimpArgs false

theorem AWF.iff {F : Fence} {n : Nat} {ds : List Deferred} {P : Program} {B : World} {ro : AH} {N : Nat} {fr : Fr} {σ : AH} {Q : Exit → Fr → AH → Prop} {c : Operand} {x y : Code} {b : Bool} {p : Prop} [Decidable p] {X Y : Prop} (hc : evalF fr c = some (.bool b)) (hi : b = true ↔ p) (h : if p then X else Y)
    (ht : X → AWF F n ds P B ro N x Q fr σ) (hn : Y → AWF F n ds P B ro N y Q fr σ) : AWF F n ds P B ro N (.cond c x y) Q fr σ := by
  refine AWF.cond hc (fun e => ht ?_) (fun e => hn ?_)
  · rw [if_pos (hi.1 e)] at h; exact h
  · rw [if_neg (fun q => by rw [hi.2 q] at e; cases e)] at h; exact h
end Go.Proofs.YtomdigihapdhnaaGreatDoor.G

/- The document's tree in memory: finding a node, counting what is below it. -/
namespace Go.Proofs.YtomdigihapdhnaaGreatDoor.Zt
open Go Go.Proofs.YtomdigihapdhnaaGreatDoor.SL Go.Proofs.YtomdigihapdhnaaGreatDoor.G Go.Proofs.YtomdigihapdhnaaGreatDoor.Pa
set_option linter.unusedSimpArgs false
set_option linter.unusedVariables false
variable {B : World} {ro σ σ' : AH} {tag tag' : Nat → Nat}

/-- a node of the document's tree, its cells -/
def nodeV (p : Str × Nd) (d : Sl) : List Value := [.string (S p.1), Sl.v d, .int .i64 p.2.ver, .int .i64 p.2.ctr, .int .i64 p.2.own]
/-- the document's tree, to be read -/
def RefM (ro σ : AH) (T : Nat) (l : St) : Prop := ∃ s : Sl, acell ro σ ⟨T, 0, none⟩ = some (Sl.v s) ∧ s.len = l.length ∧
  ∀ (j : Nat) (p : Str × Nd), l[j]? = some p → ∃ b d, s.a = some ⟨b, 0, none⟩ ∧ (∀ (i : Nat) (v : Value), (nodeV p d)[i]? = some v → acell ro σ ⟨b, j * 5 + i, none⟩ = some v) ∧ SL.Read ro σ d (p.2.data.map vU)
end Go.Proofs.YtomdigihapdhnaaGreatDoor.Zt

/- Several changes as one, the walk: Apply. -/
namespace Go.Proofs.YtomdigihapdhnaaGreatDoor.Zt
open Go Go.Proofs.YtomdigihapdhnaaGreatDoor.SL Go.Proofs.YtomdigihapdhnaaGreatDoor.G Go.Proofs.YtomdigihapdhnaaGreatDoor.Pa
set_option linter.unusedSimpArgs false
set_option linter.unusedVariables false
variable {B : World} {ro σ σ' : AH} {tag tag' : Nat → Nat}

def opV (o : MOp) (d : Sl) : List Value := [vI o.kind, Pa.vS o.path, Sl.v d, vI o.ver, .bool o.eph, .bool o.seq]
/-- ops in memory: a row of the role q, the bytes of each in rows of data, of a role for each -/
def OpsAtD (dr : Nat → Nat) (tag : Nat → Nat) (σ : AH) (q : Nat) (s : Sl) (ops : List MOp) : Prop :=
  ∃ ds : List Sl, ds.length = ops.length ∧ RowW tag σ q 72 6 s (List.zipWith opV ops ds) ∧ ∀ (i : Nat) (o : MOp) (d : Sl), ops[i]? = some o → ds[i]? = some d → Row tag σ (dr i) 5 d (o.data.map vU)
abbrev OpsAt (tag : Nat → Nat) (σ : AH) (q : Nat) (s : Sl) (ops : List MOp) : Prop := OpsAtD (fun _ => 6) tag σ q s ops
theorem OpsAtD.keepS {dr : Nat → Nat} {C : List Nat} {q : Nat} {s : Sl} {ops : List MOp} (h : OpsAtD dr tag σ q s ops) (k : StepS C ro tag σ tag' σ') (hq : q % 64 ∉ C) (h6 : ∀ i, dr i % 64 ∉ C) : OpsAtD dr tag' σ' q s ops := by
  obtain ⟨ds, h1, h2, h3⟩ := h
  exact ⟨ds, h1, RowW.keepS h2 k hq, fun i o d ho hd => (h3 i o d ho hd).keepS k (h6 i)⟩
theorem OpsAt.keepS {C : List Nat} {q : Nat} {s : Sl} {ops : List MOp} (h : OpsAt tag σ q s ops) (k : StepS C ro tag σ tag' σ') (hq : q % 64 ∉ C) (h6 : 6 ∉ C) : OpsAt tag' σ' q s ops := OpsAtD.keepS h k hq fun _ => h6
theorem OpsAtD.len {dr : Nat → Nat} {q : Nat} {s : Sl} {ops : List MOp} (h : OpsAtD dr tag σ q s ops) : s.len = ops.length := by
  obtain ⟨ds, h1, h2, h3⟩ := h
  rw [h2.len, List.length_zipWith, h1, Nat.min_self]
theorem OpsAt.len {q : Nat} {s : Sl} {ops : List MOp} (h : OpsAt tag σ q s ops) : s.len = ops.length := OpsAtD.len h
end Go.Proofs.YtomdigihapdhnaaGreatDoor.Zt

/- Trees with homes, copies of ops, and the law's own example. -/
namespace Go.Proofs.YtomdigihapdhnaaGreatDoor.Zt
open Go Go.Proofs.YtomdigihapdhnaaGreatDoor.SL Go.Proofs.YtomdigihapdhnaaGreatDoor.G Go.Proofs.YtomdigihapdhnaaGreatDoor.Pa
set_option linter.unusedSimpArgs false
set_option linter.unusedVariables false
variable {B : World} {ro σ σ' : AH} {tag tag' : Nat → Nat}

/-- ops as they came in -/
def OpsR (ro : AH) (s : Sl) (ops : List MOp) : Prop := s.len = ops.length ∧ ∀ j o, ops[j]? = some o → ∃ q ds, s.a = some q ∧ (∀ σ, SL.cellsAt ro σ (q.add (j * 6)) 0 (opV o ds)) ∧ SL.Read ro (fun _ => none) ds (o.data.map vU) ∧ o.data.length ≤ 140737488351232
theorem OpsR.data {s : Sl} {ops : List MOp} (h : OpsR ro s ops) : ∀ o ∈ ops, o.data.length < 4611686018427387904 := fun o ho => by
  obtain ⟨j, hj, rfl⟩ := List.getElem_of_mem ho
  obtain ⟨_, _, _, _, _, h5⟩ := h.2 j _ (List.getElem?_eq_getElem hj)
  omega
/-- ops in memory, to be read only -/
def OpsM (ro σ : AH) (s : Sl) (ops : List MOp) : Prop := s.len = ops.length ∧ ∀ j o, ops[j]? = some o → ∃ q ds, s.a = some q ∧ SL.cellsAt ro σ (q.add (j * 6)) 0 (opV o ds) ∧ SL.Read ro (fun _ => none) ds (o.data.map vU) ∧ o.data.length ≤ 140737488351232
theorem OpsR.m {s : Sl} {ops : List MOp} (h : OpsR ro s ops) (σ : AH) : OpsM ro σ s ops := ⟨h.1, fun j o ho => by
  obtain ⟨q, ds, h1, h2, h3, h4⟩ := h.2 j o ho
  exact ⟨q, ds, h1, h2 σ, h3, h4⟩⟩
end Go.Proofs.YtomdigihapdhnaaGreatDoor.Zt

/- Usage stays within its quota; two blocks lent; scripts while blocks are lent. -/
namespace Go.Proofs.YtomdigihapdhnaaGreatDoor.SL
open Go
variable {ro σ σ' : AH} {tag tag' : Nat → Nat}
theorem acell_ro {ψ τ : AH} {a : Addr} {v : Value} (h : acell ro (fun _ => none) a = some v) : acell (join ro ψ) τ a = some v := by
  unfold acell rd at h ⊢
  cases e : ro a.block with
  | none => rw [e] at h; simp [cellOf] at h
  | some o => rw [e] at h; rw [join_left e]; exact h
theorem cellsAt_ro {ψ τ : AH} {a : Addr} : ∀ {l : List Value} {i : Nat}, cellsAt ro (fun _ => none) a i l → cellsAt (join ro ψ) τ a i l
  | [], _, _ => trivial
  | _ :: _, _, h => ⟨acell_ro h.1, cellsAt_ro h.2⟩
theorem Read.ro' {ψ : AH} {s : Sl} {l : List Value} (h : Read ro (fun _ => none) s l) : Read (join ro ψ) (fun _ => none) s l :=
  ⟨h.1, h.2.1, fun p hp i v hv => acell_ro (h.2.2 p hp i v hv)⟩
end Go.Proofs.YtomdigihapdhnaaGreatDoor.SL
namespace Go.Proofs.YtomdigihapdhnaaGreatDoor.Zt
open Go Go.Proofs.YtomdigihapdhnaaGreatDoor.SL Go.Proofs.YtomdigihapdhnaaGreatDoor.G Go.Proofs.YtomdigihapdhnaaGreatDoor.Pa
set_option linter.unusedSimpArgs false
set_option linter.unusedVariables false
variable {B : World} {ro σ σ' : AH} {tag tag' : Nat → Nat}

/-! usage -/
/-! scripts -/
theorem OpsR.ro' {ψ : AH} {s : Sl} {ops : List MOp} (h : OpsR ro s ops) : OpsR (join ro ψ) s ops := by
  refine ⟨h.1, fun j o ho => ?_⟩
  obtain ⟨q, ds, h1, h2, h3, h4⟩ := h.2 j o ho
  exact ⟨q, ds, h1, fun σ => cellsAt_ro (h2 _), h3.ro', h4⟩
end Go.Proofs.YtomdigihapdhnaaGreatDoor.Zt

/- results compared -/
namespace Go.Proofs.YtomdigihapdhnaaGreatDoor.Zt
open Go Go.Proofs.YtomdigihapdhnaaGreatDoor.SL Go.Proofs.YtomdigihapdhnaaGreatDoor.G Go.Proofs.YtomdigihapdhnaaGreatDoor.Pa
set_option linter.unusedSimpArgs false
set_option linter.unusedVariables false
set_option maxRecDepth 100000
variable {B : World} {ro σ σ' : AH} {tag tag' : Nat → Nat}
theorem aread_bind {α β : Type} {P : Program} (s : Sem α) (f : α → Sem β) {τ : AH} {a : α} (h : aread P ro s τ = some a) : aread P ro (Sem.bind s f) τ = aread P ro (f a) τ := by
  induction s with
  | pure x => cases h; rfl
  | load m x k ih =>
    simp only [aread] at h
    simp only [Sem.bind, aread]
    split at h
    · exact ih _ h
    · cases h
  | program k ih => exact ih _ h
  | mark m k ih => exact ih h
  | _ => cases h
end Go.Proofs.YtomdigihapdhnaaGreatDoor.Zt

/- Several changes are as one by one; a transaction read from a block that is lent. -/
namespace Go.Proofs.YtomdigihapdhnaaGreatDoor.Zt
open Go Go.Proofs.YtomdigihapdhnaaGreatDoor.SL Go.Proofs.YtomdigihapdhnaaGreatDoor.G Go.Proofs.YtomdigihapdhnaaGreatDoor.Pa
set_option linter.unusedSimpArgs false
set_option linter.unusedVariables false
variable {B : World} {ro σ σ' : AH} {tag tag' : Nat → Nat}

/-! the same on trees that are the same but for their order -/
/-! a block lent -/
theorem RowW.back {r : Nat} {e : TypeId} {w : Nat} {s : Sl} {l : List (List Value)} {b r' : Nat} {τ : AH} (h : RowW tag' τ r e w s l) (hd : Disj (SL.one σ b) τ) (hb : ∃ o, σ b = some o) : RowW (setTag tag' b r') (join (SL.one σ b) τ) r e w s l := by
  rcases h with h | ⟨c, cs, ha, ht, hs, hx⟩
  · exact .inl h
  · have hcb : c ≠ b := fun e => by
      obtain ⟨o, ho⟩ := hb
      have := hd b o (by unfold SL.one; rw [if_pos rfl]; exact ho)
      rw [← e, hs] at this; cases this
    exact .inr ⟨c, cs, ha, by unfold setTag; rw [if_neg hcb]; exact ht, by unfold join SL.one; rw [if_neg hcb]; exact hs, hx⟩
end Go.Proofs.YtomdigihapdhnaaGreatDoor.Zt

/- The document's tree in memory: its blocks, and Get. -/
namespace Go.Proofs.YtomdigihapdhnaaGreatDoor.SL
open Go
variable {ro σ σ' : AH} {tag tag' : Nat → Nat}
theorem acell_lent (b : Nat) (a : Addr) : acell (join ro (one σ b)) (SL.del σ b) a = acell ro σ a := by unfold acell; rw [rd_lent]
end Go.Proofs.YtomdigihapdhnaaGreatDoor.SL
namespace Go.Proofs.YtomdigihapdhnaaGreatDoor.Zt
open Go Go.Proofs.YtomdigihapdhnaaGreatDoor.SL Go.Proofs.YtomdigihapdhnaaGreatDoor.G Go.Proofs.YtomdigihapdhnaaGreatDoor.Pa
set_option linter.unusedSimpArgs false
set_option linter.unusedVariables false
variable {B : World} {ro σ σ' : AH} {tag tag' : Nat → Nat}

/-- the document's tree: its block (role r), its nodes (role r + 64), their data in rows of data -/
def RefIs (tag : Nat → Nat) (σ : AH) (r T : Nat) (l : St) : Prop := ∃ (s : Sl) (ds : List Sl), ds.length = l.length ∧ Row tag σ r 327 ⟨some ⟨T, 0, none⟩, 1, 1⟩ [Sl.v s] ∧ RowW tag σ (r + 64) 329 5 s (List.zipWith nodeV l ds) ∧
  ∀ (i : Nat) (p : Str × Nd) (d : Sl), l[i]? = some p → ds[i]? = some d → Row tag σ 6 5 d (p.2.data.map vU)
theorem RefIs.keepS {C : List Nat} {r T : Nat} {l : St} (h : RefIs tag σ r T l) (k : StepS C ro tag σ tag' σ') (hr : r % 64 ∉ C) (h6 : 6 ∉ C) : RefIs tag' σ' r T l := by
  obtain ⟨s, ds, h1, h2, h3, h4⟩ := h
  exact ⟨s, ds, h1, h2.keepS k hr, RowW.keepS h3 k (by rw [show (r + 64) % 64 = r % 64 by omega]; exact hr), fun i p d hp hd => (h4 i p d hp hd).keepS k h6⟩
theorem RefIs.m {r T : Nat} {l : St} (h : RefIs tag σ r T l) (hs : SL.Sep ro σ) : RefM ro σ T l := by
  obtain ⟨s, ds, h1, h2, h3, h4⟩ := h
  obtain ⟨p, hp, hg⟩ := h2.ptr hs (by simp)
  cases hp
  have hl := h3.len
  rw [List.length_zipWith, h1, Nat.min_self] at hl
  refine ⟨s, by have := hg 0 _ rfl; rwa [Nat.zero_mul, add_zero] at this, hl, fun j p hj => ?_⟩
  have hjl : j < l.length := by
    rcases Nat.lt_or_ge j l.length with h | h
    · exact h
    · rw [List.getElem?_eq_none h] at hj; cases hj
  have hd : ds[j]? = some ds[j] := List.getElem?_eq_getElem (by omega)
  obtain ⟨b, ha, _, hc⟩ := RowW.get h3 hs (j := j) (x := nodeV p ds[j]) (by rw [List.getElem?_zipWith, hj, hd])
  exact ⟨b, ds[j], ha, hc, (h4 j p _ hj hd).read hs⟩
theorem RefM.lent {T : Nat} {l : St} (b : Nat) (h : RefM ro σ T l) : RefM (join ro (SL.one σ b)) (SL.del σ b) T l := by
  obtain ⟨s, h1, h2, h3⟩ := h
  refine ⟨s, by rw [acell_lent]; exact h1, h2, fun j p hj => ?_⟩
  obtain ⟨c, d, ha, hc, hd⟩ := h3 j p hj
  exact ⟨c, d, ha, fun i v hv => by rw [acell_lent]; exact hc i v hv, hd.lent b⟩
end Go.Proofs.YtomdigihapdhnaaGreatDoor.Zt

/- The document's tree: Children, Paths. -/
namespace Go.Proofs.YtomdigihapdhnaaGreatDoor.Zt
open Go Go.Proofs.YtomdigihapdhnaaGreatDoor.SL Go.Proofs.YtomdigihapdhnaaGreatDoor.G Go.Proofs.YtomdigihapdhnaaGreatDoor.Pa
set_option linter.unusedSimpArgs false
set_option linter.unusedVariables false
variable {B : World} {ro σ σ' : AH} {tag tag' : Nat → Nat}

theorem RefM.len {T : Nat} {l : St} (h : RefM ro σ T l) : ∃ s : Sl, acell ro σ ⟨T, 0, none⟩ = some (Sl.v s) ∧ s.len = l.length := by
  obtain ⟨s, h1, h2, _⟩ := h
  exact ⟨s, h1, h2⟩
end Go.Proofs.YtomdigihapdhnaaGreatDoor.Zt

/- A store, the plain part: sessions, watches, and what calls do. -/
namespace Go.Proofs.YtomdigihapdhnaaGreatDoor.Zt
open Go Go.Proofs.YtomdigihapdhnaaGreatDoor.SL Go.Proofs.YtomdigihapdhnaaGreatDoor.Pa Go.Proofs.YtomdigihapdhnaaGreatDoor.Wi
set_option linter.unusedSimpArgs false
set_option linter.unusedVariables false

structure Sess where
  nonce : Int
  lease : Int
  beats : Int
  req : Int
  reply : Str
structure House where
  last : Int
  live : List (Int × Sess)
abbrev Tbl := List (Str × House)
def okN (n : Int) : Bool := decide (1 ≤ n) && decide (n ≤ 4611686018427387903)
abbrev Mark := Str × Int
structure Desk where
  events : List (Int × Int × Str)
  acked : Int
  last : Int
  marks : List Mark
abbrev Hub := List ((Str × Int) × Desk)
def checkW (k : Str × Int) (m : Mark) : Int :=
  if m.2 ≠ 1 ∧ m.2 ≠ 2 then 160
  else match homeOf m.1 with
    | none => 20
    | some h => if h ≠ k.1 ∨ nameOk k.1 = false ∨ k.2 < 1 ∨ 4611686018427387903 < k.2 then 82 else 0
structure Sto where
  epoch : Int
  members : List Int
  tree : St
  tbl : Tbl
  hub : Hub
structure Call where
  kind : Int
  home : Str
  session : Int
  req : Int
  nonce : Int
  lease : Int
  beats : Int
  ack : Int
  ops : List MOp
  path : Str
  watch : Bool
  epoch : Int
  members : List Int
structure Rep where
  code : Int
  session : Int
  results : List (Str × Int)
  bad : Int
  data : Str
  ver : Int
  ctr : Int
  own : Int
  kids : Int
  names : List Str
  events : List (Int × Int × Str)
  epoch : Int
def Rep.zero : Rep := ⟨0, 0, [], 0, [], 0, 0, 0, 0, [], [], 0⟩
def Sto.new (members : List Int) : Sto := ⟨0, members, St.new, [], []⟩
def Call.key (c : Call) : Str × Int := (c.home, c.session)
/-! replies as bytes -/
def okRep (x : Rep) : Prop := x.results.length ≤ 16 ∧ x.names.length ≤ 4096 ∧ x.events.length ≤ 32 ∧ -1 ≤ x.bad ∧ x.bad < 4611686018427387903 ∧ rightN x.code = true ∧ rightN x.session = true ∧ rightN x.ver = true ∧ rightN x.ctr = true ∧ rightN x.own = true ∧ rightN x.kids = true ∧ rightN x.epoch = true ∧
  (∀ y ∈ x.results, rightN y.2 = true) ∧ ∀ y ∈ x.events, rightN y.1 = true ∧ rightN y.2.1 = true
instance (x : Rep) : Decidable (okRep x) := by unfold okRep; infer_instance
def encRes (l : List (Str × Int)) : Str := l.flatMap fun y => blob y.1 ++ vput y.2.toNat
def encEvs (l : List (Int × Int × Str)) : Str := l.flatMap fun y => vput y.1.toNat ++ (vput y.2.1.toNat ++ blob y.2.2)
def encRep (x : Rep) : Str := vput x.code.toNat ++ (vput x.session.toNat ++ (vput x.results.length ++ (encRes x.results ++ (vput (x.bad + 1).toNat ++ (blob x.data ++ (vput x.ver.toNat ++ (vput x.ctr.toNat ++ (vput x.own.toNat ++ (vput x.kids.toNat ++ (vput x.names.length ++ (x.names.flatMap blob ++ (vput x.events.length ++ (encEvs x.events ++ vput x.epoch.toNat)))))))))))))
def putRep (x : Rep) : Option Str := if okRep x then some (encRep x) else none
def gres : Nat → Rd → List (Str × Int) × Rd
  | 0, r => ([], r)
  | n + 1, r => (((rblob r).1, ((rnum (rblob r).2).1 : Int)) :: (gres n (rnum (rblob r).2).2).1, (gres n (rnum (rblob r).2).2).2)
def gnames : Nat → Rd → List Str × Rd
  | 0, r => ([], r)
  | n + 1, r => ((rblob r).1 :: (gnames n (rblob r).2).1, (gnames n (rblob r).2).2)
def gevs : Nat → Rd → List (Int × Int × Str) × Rd
  | 0, r => ([], r)
  | n + 1, r => let a := rnum r; let b := rnum a.2; let c := rblob b.2
    (((a.1 : Int), (b.1 : Int), c.1) :: (gevs n c.2).1, (gevs n c.2).2)
/-- what a reader tells: the reply, how many results, names and events it speaks of, the reader behind it -/
structure RR where
  x : Rep
  nr : Nat
  nn : Nat
  ne : Nat
  r : Rd
def readRep (b : Str) : RR :=
  let a1 := rnum ⟨b, 0⟩
  let a2 := rnum a1.2
  let a3 := rnum a2.2
  let a4 := gres (min a3.1 16) a3.2
  let a5 := rnum a4.2
  let a6 := rblob a5.2
  let a7 := rnum a6.2
  let a8 := rnum a7.2
  let a9 := rnum a8.2
  let b0 := rnum a9.2
  let b1 := rnum b0.2
  let b2 := gnames (min b1.1 4096) b1.2
  let b3 := rnum b2.2
  let b4 := gevs (min b3.1 32) b3.2
  let b5 := rnum b4.2
  ⟨⟨a1.1, a2.1, a4.1, (a5.1 : Int) - 1, a6.1, a7.1, a8.1, a9.1, b0.1, b2.1, b4.1, b5.1⟩, a3.1, b1.1, b3.1, b5.2⟩
def getRep (b : Str) : Option Rep :=
  if (readRep b).r.err ≠ 0 ∨ 0 < (readRep b).r.rest.length ∨ 16 < (readRep b).nr ∨ 4096 < (readRep b).nn ∨ 32 < (readRep b).ne then none else some (readRep b).x

end Go.Proofs.YtomdigihapdhnaaGreatDoor.Zt

/- Replies as bytes and back: the plain part. -/
namespace Go.Proofs.YtomdigihapdhnaaGreatDoor.Zt
open Go Go.Proofs.YtomdigihapdhnaaGreatDoor.SL Go.Proofs.YtomdigihapdhnaaGreatDoor.Pa Go.Proofs.YtomdigihapdhnaaGreatDoor.Wi
set_option linter.unusedSimpArgs false
set_option linter.unusedVariables false

theorem rightN_iff {n : Int} : rightN n = true ↔ 0 ≤ n ∧ n ≤ 4611686018427387903 := by unfold rightN; simp
theorem nat_right {n : Int} (h : rightN n = true) : ((n.toNat : Nat) : Int) = n ∧ n.toNat < 4611686018427387904 := by
  have := rightN_iff.1 h; omega
theorem gres_put : ∀ (l : List (Str × Int)) (r : Str), (∀ y ∈ l, rightN y.2 = true ∧ y.1.length < 4611686018427387904) → gres l.length ⟨encRes l ++ r, 0⟩ = (l, ⟨r, 0⟩) := by
  intro l
  induction l with
  | nil => intro r _; rfl
  | cons y l ih =>
    intro r h
    obtain ⟨h1, h2⟩ := h y (by simp)
    obtain ⟨e1, e2⟩ := nat_right h1
    have e : encRes (y :: l) ++ r = blob y.1 ++ (vput y.2.toNat ++ (encRes l ++ r)) := by unfold encRes; simp
    rw [e, List.length_cons]
    unfold gres
    rw [rblob_put h2, rnum_put e2, ih r fun z hz => h z (by simp [hz]), e1]
theorem gnames_put : ∀ (l : List Str) (r : Str), (∀ y ∈ l, y.length < 4611686018427387904) → gnames l.length ⟨l.flatMap blob ++ r, 0⟩ = (l, ⟨r, 0⟩) := by
  intro l
  induction l with
  | nil => intro r _; rfl
  | cons y l ih =>
    intro r h
    have h2 := h y (by simp)
    have e : (y :: l).flatMap blob ++ r = blob y ++ (l.flatMap blob ++ r) := by simp
    rw [e, List.length_cons]
    unfold gnames
    rw [rblob_put h2, ih r fun z hz => h z (by simp [hz])]
theorem gevs_put : ∀ (l : List (Int × Int × Str)) (r : Str), (∀ y ∈ l, (rightN y.1 = true ∧ rightN y.2.1 = true) ∧ y.2.2.length < 4611686018427387904) → gevs l.length ⟨encEvs l ++ r, 0⟩ = (l, ⟨r, 0⟩) := by
  intro l
  induction l with
  | nil => intro r _; rfl
  | cons y l ih =>
    intro r h
    obtain ⟨⟨h1, h2⟩, h3⟩ := h y (by simp)
    obtain ⟨e1, e2⟩ := nat_right h1
    obtain ⟨e3, e4⟩ := nat_right h2
    have e : encEvs (y :: l) ++ r = vput y.1.toNat ++ (vput y.2.1.toNat ++ (blob y.2.2 ++ (encEvs l ++ r))) := by unfold encEvs; simp
    rw [e, List.length_cons]
    unfold gevs
    simp only
    rw [rnum_put e2, rnum_put e4, rblob_put h3, ih r fun z hz => h z (by simp [hz]), e1, e3]
structure SmallR (x : Rep) : Prop where
  data : x.data.length < 4611686018427387904
  res : ∀ y ∈ x.results, y.1.length < 4611686018427387904
  names : ∀ y ∈ x.names, y.length < 4611686018427387904
  evs : ∀ y ∈ x.events, y.2.2.length < 4611686018427387904
theorem getRep_enc {x : Rep} (h : okRep x) (hs : SmallR x) : getRep (encRep x) = some x := by
  obtain ⟨h1, h2, h3, h4, h5, c1, c2, c3, c4, c5, c6, c7, h6, h7⟩ := h
  obtain ⟨a1, b1⟩ := nat_right c1
  obtain ⟨a2, b2⟩ := nat_right c2
  obtain ⟨a3, b3⟩ := nat_right c3
  obtain ⟨a4, b4⟩ := nat_right c4
  obtain ⟨a5, b5⟩ := nat_right c5
  obtain ⟨a6, b6⟩ := nat_right c6
  obtain ⟨a7, b7⟩ := nat_right c7
  have hb : (x.bad + 1).toNat < 4611686018427387904 := by omega
  have hb2 : (((x.bad + 1).toNat : Nat) : Int) - 1 = x.bad := by omega
  have hr : readRep (encRep x) = ⟨x, x.results.length, x.names.length, x.events.length, ⟨[], 0⟩⟩ := by
    unfold readRep encRep
    simp only [rnum_put b1, rnum_put b2, rnum_put (show x.results.length < 4611686018427387904 by omega)]
    rw [Nat.min_eq_left h1, gres_put _ _ fun y hy => ⟨h6 y hy, hs.res y hy⟩]
    simp only [rnum_put hb, rblob_put hs.data, rnum_put b3, rnum_put b4, rnum_put b5, rnum_put b6, rnum_put (show x.names.length < 4611686018427387904 by omega)]
    rw [Nat.min_eq_left h2, gnames_put _ _ hs.names]
    simp only [rnum_put (show x.events.length < 4611686018427387904 by omega)]
    rw [Nat.min_eq_left h3, gevs_put _ _ fun y hy => ⟨h7 y hy, hs.evs y hy⟩]
    have e7 : vput x.epoch.toNat = vput x.epoch.toNat ++ [] := by simp
    rw [e7]
    simp only [rnum_put b7, a1, a2, a3, a4, a5, a6, a7, hb2]
  unfold getRep
  rw [hr, if_neg (by simp; omega)]
theorem getRep_put {x : Rep} {b : Str} (h : putRep x = some b) (hs : SmallR x) : getRep b = some x := by
  unfold putRep at h
  split at h
  · rename_i hk; cases h; exact getRep_enc hk hs
  · cases h
theorem rnum_lt' (r : Rd) : (rnum r).1 < 4611686018427387904 := by
  unfold rnum
  split
  · show 0 < 4611686018427387904; omega
  · exact (num_le _).2
theorem rnum_right (r : Rd) : rightN ((rnum r).1 : Nat) = true := by
  have := rnum_lt' r
  rw [rightN_iff]; omega
theorem gres_ok : ∀ (n : Nat) (r : Rd), (gres n r).1.length = n ∧ ∀ y ∈ (gres n r).1, rightN y.2 = true := by
  intro n
  induction n with
  | zero => intro r; exact ⟨rfl, fun y h => by cases h⟩
  | succ n ih =>
    intro r
    obtain ⟨i1, i2⟩ := ih (rnum (rblob r).2).2
    unfold gres
    refine ⟨by simp [i1], fun y hy => ?_⟩
    rcases List.mem_cons.1 hy with rfl | hy
    · exact rnum_right _
    · exact i2 y hy
theorem gnames_ok : ∀ (n : Nat) (r : Rd), (gnames n r).1.length = n := by
  intro n
  induction n with
  | zero => intro r; rfl
  | succ n ih => intro r; unfold gnames; simp [ih]
theorem gevs_ok : ∀ (n : Nat) (r : Rd), (gevs n r).1.length = n ∧ ∀ y ∈ (gevs n r).1, rightN y.1 = true ∧ rightN y.2.1 = true := by
  intro n
  induction n with
  | zero => intro r; exact ⟨rfl, fun y h => by cases h⟩
  | succ n ih =>
    intro r
    obtain ⟨i1, i2⟩ := ih (rblob (rnum (rnum r).2).2).2
    unfold gevs
    refine ⟨by simp [i1], fun y hy => ?_⟩
    rcases List.mem_cons.1 hy with rfl | hy
    · exact ⟨rnum_right _, rnum_right _⟩
    · exact i2 y hy
theorem getRep_ok {b : Str} {x : Rep} (h : getRep b = some x) : okRep x := by
  unfold getRep at h
  split at h
  · cases h
  rename_i hc
  cases h
  simp only [not_or] at hc
  obtain ⟨_, _, c1, c2, c3⟩ := hc
  have hbad := rnum_lt' (gres (min (rnum (rnum (rnum ⟨b, 0⟩).2).2).1 16) (rnum (rnum (rnum ⟨b, 0⟩).2).2).2).2
  unfold readRep at c1 c2 c3 ⊢
  simp only at c1 c2 c3 ⊢
  unfold okRep
  simp only
  refine ⟨by rw [(gres_ok _ _).1]; omega, by rw [gnames_ok]; omega, by rw [(gevs_ok _ _).1]; omega, by omega, by omega, rnum_right _, rnum_right _, rnum_right _, rnum_right _, rnum_right _, rnum_right _, rnum_right _, (gres_ok _ _).2, (gevs_ok _ _).2⟩
end Go.Proofs.YtomdigihapdhnaaGreatDoor.Zt

/- Rows that are read, element by element. Generic over any program. -/
namespace Go.Proofs.YtomdigihapdhnaaGreatDoor.SL
open Go
set_option linter.unusedVariables false
variable {P : Program} {B : World} {ro σ σ' : AH} {tag tag' : Nat → Nat}
theorem add_add' (a : Addr) (p i : Nat) : (a.add p).add i = a.add (p + i) := by
  cases p with
  | zero => show a.add i = _; rw [Nat.zero_add]
  | succ p =>
    cases i with
    | zero => rfl
    | succ i =>
      obtain ⟨b, o, s⟩ := a
      cases s with
      | none => simp [Addr.add]; omega
      | some s => simp [Addr.add]; omega
theorem Read.ptr {s : Sl} {l : List Value} (h : Read ro σ s l) (hl : 0 < l.length) : ∃ p, s.a = some p ∧ ∀ i v, l[i]? = some v → acell ro σ (p.add i) = some v := by
  cases e : s.a with
  | none => have := h.2.1 e; subst this; simp at hl
  | some p => exact ⟨p, rfl, h.2.2 p e⟩
theorem ReadW.at {w : Nat} {s : Sl} {l : List (List Value)} (h : ReadW ro σ w s l) {j : Nat} {x : List Value} (hj : l[j]? = some x) : ∃ q, s.a = some q ∧ cellsAt ro σ (q.add (j * w)) 0 x := by
  have hjl : j < l.length := (List.getElem?_eq_some_iff.1 hj).1
  cases e : s.a with
  | none => have := h.2.1 e; subst this; simp at hjl
  | some q =>
    refine ⟨q, rfl, cellsAt_of 0 fun i v hv => ?_⟩
    have hw := h.2.2.1 x (List.mem_of_getElem? hj)
    have hi : i < w := by
      have := (List.getElem?_eq_some_iff.1 hv).1
      omega
    have := h.2.2.2 q e (j * w + i) v (by rw [flat_get h.2.2.1 hj hi]; exact hv)
    rw [Nat.zero_add, add_add']; exact this
end Go.Proofs.YtomdigihapdhnaaGreatDoor.SL

/- A writer, on: several texts; what is written where nothing is bad. -/
namespace Go.Proofs.YtomdigihapdhnaaGreatDoor.Wi
open Go Go.Proofs.YtomdigihapdhnaaGreatDoor.SL Go.Proofs.YtomdigihapdhnaaGreatDoor.G Go.Proofs.YtomdigihapdhnaaGreatDoor.Zt
set_option linter.unusedSimpArgs false
set_option linter.unusedVariables false
variable {B : World} {ro σ σ' : AH} {tag tag' : Nat → Nat}

theorem wtexts_len {m : Nat} : ∀ (ps : List Str) (a : Str × Bool), (∀ p ∈ ps, p.length ≤ m) → (ps.foldl wtext a).1.length ≤ a.1.length + ps.length * (m + 9)
  | [], a, _ => by simp
  | p :: ps, a, h => by
    have h1 := wtexts_len ps (wtext a p) fun q hq => h q (by simp [hq])
    have h2 := wtext_len a p
    have h3 := h p (by simp)
    rw [List.foldl_cons, List.length_cons, Nat.succ_mul]
    omega
set_option maxRecDepth 100000 in
/-- several texts -/
theorem texts_ok {r W m : Nat} {s : Sl} {a : Str × Bool} {ps : List Str} {Q : AH → Prop} (h : BufAt tag σ r W a.1 a.2) (hr : r ≠ 1) (hs : SL.Sep ro σ) (hm : ∀ p ∈ ps, p.length ≤ m) (hl : a.1.length + ps.length * (m + 9) ≤ 140737488355328)
    (hx : ∀ tag' σ', Step [r, r + 64, 1] ro tag σ tag' σ' → SL.Read ro σ' s (ps.map Pa.vS))
    (hQ : ∀ tag' σ', Step [r, r + 64, 1] ro tag σ tag' σ' → BufAt tag' σ' r W (ps.foldl wtext a).1 (ps.foldl wtext a).2 → Q σ') : c_wire_Writer_Texts B ro (some ⟨W, 0, none⟩) s σ Q := by
  refine wire_Writer_Texts_ok fun _ => ?_
  unfold f_wire_Writer_Texts
  have hsl : s.len = ps.length := by rw [(hx tag σ (Step.refl hs)).1, List.length_map]
  suffices ∀ (k j : Nat) (tag1 : Nat → Nat) (σ1 : AH), j + k = ps.length → Step [r, r + 64, 1] ro tag σ tag1 σ1 → BufAt tag1 σ1 r W ((ps.take j).foldl wtext a).1 ((ps.take j).foldl wtext a).2 → lfpD (l1_wire_Writer_Texts B ro (some ⟨W, 0, none⟩) s Q) (j : Int) σ1 from
    this _ 0 tag σ (Nat.zero_add _) (Step.refl hs) (by simpa using h)
  have hps : ps.length ≤ 140737488355328 := by
    have : ps.length * 9 ≤ ps.length * (m + 9) := Nat.mul_le_mul_left _ (by omega)
    omega
  intro k
  induction k with
  | zero =>
    intro j tag1 σ1 hj st h1
    refine lfpD.intro ?_
    unfold l1_wire_Writer_Texts
    rw [if_neg (by omega)]
    rw [List.take_of_length_le (by omega)] at h1
    exact hQ tag1 σ1 st h1
  | succ k ih =>
    intro j tag1 σ1 hj st h1
    have hjl : j < ps.length := by omega
    have hp0 := hm ps[j] (List.getElem_mem hjl)
    have hlen : ((ps.take j).foldl wtext a).1.length + (9 + ps[j].length) ≤ 140737488355328 := by
      have := wtexts_len (ps.take j) a fun p hp => hm p (List.mem_of_mem_take hp)
      rw [List.length_take, Nat.min_eq_left (by omega)] at this
      have h2 : (j + 1) * (m + 9) ≤ ps.length * (m + 9) := Nat.mul_le_mul_right _ hjl
      rw [Nat.succ_mul] at h2
      omega
    obtain ⟨p, hp, hg⟩ := (hx tag1 σ1 st).ptr (by simp; omega)
    refine lfpD.intro ?_
    unfold l1_wire_Writer_Texts
    rw [if_pos (by omega)]
    refine ⟨p, hp, by omega, by omega, S ps[j], ?_, _, rfl, ?_⟩
    · rw [Int.toNat_natCast, Nat.mul_one]
      exact hg j _ (by rw [List.getElem?_map, List.getElem?_eq_getElem hjl]; rfl)
    have hl2 := wnum_len ((ps.take j).foldl wtext a) ps[j].length
    rw [show ((S ps[j]).size : Int) = (ps[j].length : Nat) from by rw [← L_len, L_S]]
    refine num_ok h1 hr st.sep (by omega) fun tag2 σ2 st2 h2 => ?_
    refine ⟨_, rfl, ?_⟩
    refine bufWriteStr_ok h2 st2.sep (by rw [L_S]; omega) fun _ _ tag3 σ3 st3 h3 => ?_
    rw [L_S] at h3
    rw [Pa.inc j (by omega)]
    have e : (ps.take (j + 1)).foldl wtext a = wtext ((ps.take j).foldl wtext a) ps[j] := by
      rw [List.take_add_one, List.getElem?_eq_getElem hjl, List.foldl_append]; rfl
    refine ih (j + 1) tag3 σ3 (by omega) (st.trans (st2.trans (st3.mono (by simp)))) ?_
    rw [e]
    exact h3
theorem wnum_yes {a : Str} {n : Int} (h : rightN n = true) : wnum (a, false) n = (a ++ vput n.toNat, false) := by unfold wnum; rw [if_pos h]
theorem wnum_no {a : Str × Bool} {n : Int} (h : rightN n = false) : (wnum a n).2 = true := by unfold wnum; rw [h]; rfl
theorem wnumB {a : Str × Bool} {n : Int} (h : a.2 = true) : (wnum a n).2 = true := by unfold wnum; split <;> simp [h]
theorem wtext_yes {a p : Str} (h : p.length < 4611686018427387904) : wtext (a, false) p = (a ++ blob p, false) := by
  unfold wtext
  rw [wnum_yes (by unfold rightN; simp; omega), Int.toNat_natCast]
  unfold blob
  simp
theorem wtextB {a : Str × Bool} {p : Str} (h : a.2 = true) : (wtext a p).2 = true := by unfold wtext; exact wnumB h
theorem wnums_bad : ∀ (ns : List Int) {a : Str × Bool}, a.2 = true → (ns.foldl wnum a).2 = true
  | [], _, h => h
  | n :: ns, a, h => wnums_bad ns (a := wnum a n) (wnumB h)
theorem wtexts_bad : ∀ (ps : List Str) {a : Str × Bool}, a.2 = true → (ps.foldl wtext a).2 = true
  | [], _, h => h
  | p :: ps, a, h => wtexts_bad ps (a := wtext a p) (wtextB h)
theorem wtexts_yes : ∀ (ps : List Str) {a : Str}, (∀ p ∈ ps, p.length < 4611686018427387904) → ps.foldl wtext (a, false) = (a ++ ps.flatMap blob, false)
  | [], a, _ => by simp
  | p :: ps, a, h => by
    rw [List.foldl_cons, wtext_yes (h p (by simp)), wtexts_yes ps fun q hq => h q (by simp [hq])]
    simp
theorem wnums_len (ns : List Int) : ∀ a : Str × Bool, (ns.foldl wnum a).1.length ≤ a.1.length + 9 * ns.length := by
  induction ns with
  | nil => intro a; simp
  | cons n ns ih =>
    intro a
    have := ih (wnum a n)
    have := wnum_len a n
    rw [List.foldl_cons, List.length_cons]; omega

/-! a call with its own row of numbers, one text, one blob -/
set_option maxRecDepth 100000 in
theorem wrNums {r W : Nat} {a : Str × Bool} (ns : List Int) {K : AH → Prop} (h : BufAt tag σ r W a.1 a.2) (hr : r ≠ 1 ∧ r ≠ 0) (hs : SL.Sep ro σ) (hl : a.1.length + 9 * ns.length ≤ 140737488355328)
    (hK : ∀ tag' σ', Step [r, r + 64, 1] ro tag σ tag' σ' → BufAt tag' σ' r W (ns.foldl wnum a).1 (ns.foldl wnum a).2 → K σ') :
    nw ro σ (.cells (ns.map Zt.vI).toArray 3) fun y σ => c_wire_Writer_Nums B ro (some ⟨W, 0, none⟩) (⟨some ⟨y, 0, none⟩, ns.length, ns.length⟩ : Sl) σ K := by
  refine nw_cells (tag := tag) 0 hs fun y tag1 σ1 st1 r1 => ?_
  rw [List.size_toArray, List.length_map] at r1
  exact nums_ok (r := r) (q := 0) (ns := ns) (a := a) hr.1 ⟨Ne.symm hr.2, by omega, by omega⟩ (h.keep (st1 []) (by simp) (by simp)) (st1 []).sep hl r1 fun tag2 σ2 st2 h2 => hK tag2 σ2 ((st1 _).trans st2) h2
set_option maxRecDepth 100000 in
theorem wrText {r W : Nat} {a : Str × Bool} (p : Str) {K : AH → Prop} (h : BufAt tag σ r W a.1 a.2) (hr : r ≠ 1 ∧ r ≠ 0) (hs : SL.Sep ro σ) (hl : a.1.length + 9 + p.length ≤ 140737488355328)
    (hK : ∀ tag' σ', Step [r, r + 64, 1] ro tag σ tag' σ' → BufAt tag' σ' r W (wtext a p).1 (wtext a p).2 → K σ') :
    nw ro σ (.cells #[.string (S p)] 9) fun y σ => c_wire_Writer_Texts B ro (some ⟨W, 0, none⟩) (⟨some ⟨y, 0, none⟩, 1, 1⟩ : Sl) σ K := by
  refine nw_cells (tag := tag) 0 hs fun y tag1 σ1 st1 r1 => ?_
  exact texts1_ok (r := r) (q := 0) (p := p) (a := a) (h.keep (st1 []) (by simp) (by simp)) hr.1 ⟨Ne.symm hr.2, by omega, by omega⟩ (st1 []).sep hl r1 fun tag2 σ2 st2 h2 => hK tag2 σ2 ((st1 _).trans st2) h2
set_option maxRecDepth 100000 in
theorem wrBlob {r W : Nat} {a : Str × Bool} {s : Sl} (p : Str) {K : AH → Prop} (h : BufAt tag σ r W a.1 a.2) (hr : r ≠ 1 ∧ r ≠ 0) (hs : SL.Sep ro σ) (hl : a.1.length + 9 + p.length ≤ 140737488355328)
    (hsrc : ∀ tag' σ', Step [r, r + 64, 1] ro tag σ tag' σ' → SL.Read ro σ' s (p.map vU)) (hK : ∀ tag' σ', Step [r, r + 64, 1] ro tag σ tag' σ' → BufAt tag' σ' r W (wtext a p).1 (wtext a p).2 → K σ') :
    nw ro σ (.cells #[Sl.v s] 24) fun y σ => c_wire_Writer_Blobs B ro (some ⟨W, 0, none⟩) (⟨some ⟨y, 0, none⟩, 1, 1⟩ : Sl) σ K := by
  have hln : s.len = p.length := by have := (hsrc tag σ (Step.refl hs)).1; rw [this, List.length_map]
  refine nw_cells (tag := tag) 0 hs fun y tag1 σ1 st1 r1 => ?_
  exact blobs1_ok (r := r) (q := 0) (p := p) (a := a) (h.keep (st1 []) (by simp) (by simp)) hr.1 ⟨Ne.symm hr.2, by omega, by omega⟩ (st1 []).sep hl r1 hln (fun tag2 σ2 st2 => hsrc tag2 σ2 ((st1 _).trans st2)) fun tag2 σ2 st2 h2 => hK tag2 σ2 ((st1 _).trans st2) h2
end Go.Proofs.YtomdigihapdhnaaGreatDoor.Wi

/- Replies as bytes: what a writer has, the plain part. -/
namespace Go.Proofs.YtomdigihapdhnaaGreatDoor.Zt
open Go Go.Proofs.YtomdigihapdhnaaGreatDoor.SL Go.Proofs.YtomdigihapdhnaaGreatDoor.Pa Go.Proofs.YtomdigihapdhnaaGreatDoor.Wi
set_option linter.unusedSimpArgs false
set_option linter.unusedVariables false

structure Sm20 (x : Rep) : Prop where
  data : x.data.length ≤ 1048576
  res : ∀ y ∈ x.results, y.1.length ≤ 1048576
  names : ∀ y ∈ x.names, y.length ≤ 1048576
  evs : ∀ y ∈ x.events, y.2.2.length ≤ 1048576
def wres (a : Str × Bool) (y : Str × Int) : Str × Bool := wnum (wtext a y.1) y.2
def wev (a : Str × Bool) (y : Int × Int × Str) : Str × Bool := wtext (wnum (wnum a y.1) y.2.1) y.2.2
def wr1 (x : Rep) : Str × Bool := [x.code, x.session, (x.results.length : Int)].foldl wnum ([], false)
def wr2 (x : Rep) : Str × Bool := x.results.foldl wres (wr1 x)
def wr3 (x : Rep) : Str × Bool := wtext (wnum (wr2 x) (x.bad + 1)) x.data
def wr4 (x : Rep) : Str × Bool := [x.ver, x.ctr, x.own, x.kids, (x.names.length : Int)].foldl wnum (wr3 x)
def wr5 (x : Rep) : Str × Bool := wnum (x.names.foldl wtext (wr4 x)) (x.events.length : Int)
def wr6 (x : Rep) : Str × Bool := x.events.foldl wev (wr5 x)
def wrep (x : Rep) : Str × Bool := wnum (wr6 x) x.epoch
theorem fold_len {α : Type} {f : Str × Bool → α → Str × Bool} {n : Nat} : ∀ (l : List α) (a : Str × Bool), (∀ a, ∀ y ∈ l, (f a y).1.length ≤ a.1.length + n) → (l.foldl f a).1.length ≤ a.1.length + n * l.length
  | [], a, _ => by simp
  | y :: l, a, h => by
    have h1 := fold_len l (f a y) fun a z hz => h a z (by simp [hz])
    have h2 := h a y (by simp)
    rw [List.foldl_cons, List.length_cons, Nat.mul_add]
    omega
theorem fold_bad {α : Type} {f : Str × Bool → α → Str × Bool} (h : ∀ a y, a.2 = true → (f a y).2 = true) : ∀ (l : List α) {a : Str × Bool}, a.2 = true → (l.foldl f a).2 = true
  | [], _, k => k
  | y :: l, a, k => fold_bad h l (h a y k)
theorem wres_len (a : Str × Bool) (y : Str × Int) : (wres a y).1.length ≤ a.1.length + 18 + y.1.length := by
  unfold wres
  have := wnum_len (wtext a y.1) y.2
  have := wtext_len a y.1
  omega
theorem wev_len (a : Str × Bool) (y : Int × Int × Str) : (wev a y).1.length ≤ a.1.length + 27 + y.2.2.length := by
  unfold wev
  have := wtext_len (wnum (wnum a y.1) y.2.1) y.2.2
  have := wnum_len (wnum a y.1) y.2.1
  have := wnum_len a y.1
  omega
theorem wres_take (x : Rep) (hs : Sm20 x) (h1 : x.results.length ≤ 16) (j : Nat) : ((x.results.take j).foldl wres (wr1 x)).1.length ≤ 27 + 1048594 * 16 := by
  have h := fold_len (f := wres) (n := 1048594) (x.results.take j) (wr1 x) fun a y hy => by
    have := wres_len a y
    have := hs.res y (List.mem_of_mem_take hy)
    omega
  have h0 : (wr1 x).1.length ≤ 27 := by have := wnums_len [x.code, x.session, (x.results.length : Int)] ([], false); simpa [wr1] using this
  have h2 : (x.results.take j).length ≤ 16 := by rw [List.length_take]; omega
  have h3 : 1048594 * (x.results.take j).length ≤ 1048594 * 16 := Nat.mul_le_mul_left _ h2
  omega
theorem wr2_len (x : Rep) (hs : Sm20 x) (h1 : x.results.length ≤ 16) : (wr2 x).1.length ≤ 27 + 1048594 * 16 := by
  have := wres_take x hs h1 x.results.length
  rw [List.take_length] at this
  exact this
theorem wr4_len (x : Rep) (hs : Sm20 x) (h1 : x.results.length ≤ 16) : (wr4 x).1.length ≤ 20000000 := by
  have a := wr2_len x hs h1
  have b := wnum_len (wr2 x) (x.bad + 1)
  have c := wtext_len (wnum (wr2 x) (x.bad + 1)) x.data
  have d := wnums_len [x.ver, x.ctr, x.own, x.kids, (x.names.length : Int)] (wr3 x)
  have e := hs.data
  unfold wr4 wr3 at *
  simp only [List.length_cons, List.length_nil] at d
  omega
theorem wr5_len (x : Rep) (hs : Sm20 x) (h1 : x.results.length ≤ 16) (h2 : x.names.length ≤ 4096) : (wr5 x).1.length ≤ 20000009 + 4096 * 1048585 := by
  have a := wr4_len x hs h1
  have b := wtexts_len (m := 1048576) x.names (wr4 x) hs.names
  have c : x.names.length * (1048576 + 9) ≤ 4096 * 1048585 := Nat.mul_le_mul_right _ h2
  have d := wnum_len (x.names.foldl wtext (wr4 x)) (x.events.length : Int)
  unfold wr5
  omega
theorem wev_take (x : Rep) (hs : Sm20 x) (h1 : x.results.length ≤ 16) (h2 : x.names.length ≤ 4096) (h3 : x.events.length ≤ 32) (j : Nat) : ((x.events.take j).foldl wev (wr5 x)).1.length ≤ 5000000000 := by
  have h := fold_len (f := wev) (n := 1048603) (x.events.take j) (wr5 x) fun a y hy => by
    have := wev_len a y
    have := hs.evs y (List.mem_of_mem_take hy)
    omega
  have h0 := wr5_len x hs h1 h2
  have h4 : (x.events.take j).length ≤ 32 := by rw [List.length_take]; omega
  have h5 : 1048603 * (x.events.take j).length ≤ 1048603 * 32 := Nat.mul_le_mul_left _ h4
  omega
theorem wr6_len (x : Rep) (hs : Sm20 x) (h1 : x.results.length ≤ 16) (h2 : x.names.length ≤ 4096) (h3 : x.events.length ≤ 32) : (wr6 x).1.length ≤ 5000000000 := by
  have := wev_take x hs h1 h2 h3 x.events.length
  rw [List.take_length] at this
  exact this

/-! what comes of it -/
theorem wress_yes : ∀ (l : List (Str × Int)) {a : Str}, (∀ y ∈ l, rightN y.2 = true ∧ y.1.length < 4611686018427387904) → l.foldl wres (a, false) = (a ++ encRes l, false)
  | [], a, _ => by simp [encRes]
  | y :: l, a, h => by
    obtain ⟨h1, h2⟩ := h y (by simp)
    rw [List.foldl_cons]
    have : wres (a, false) y = (a ++ (blob y.1 ++ vput y.2.toNat), false) := by
      unfold wres; rw [wtext_yes h2, wnum_yes h1, List.append_assoc]
    rw [this, wress_yes l fun z hz => h z (by simp [hz])]
    unfold encRes
    simp
theorem wevs_yes : ∀ (l : List (Int × Int × Str)) {a : Str}, (∀ y ∈ l, (rightN y.1 = true ∧ rightN y.2.1 = true) ∧ y.2.2.length < 4611686018427387904) → l.foldl wev (a, false) = (a ++ encEvs l, false)
  | [], a, _ => by simp [encEvs]
  | y :: l, a, h => by
    obtain ⟨⟨h1, h2⟩, h3⟩ := h y (by simp)
    rw [List.foldl_cons]
    have : wev (a, false) y = (a ++ (vput y.1.toNat ++ (vput y.2.1.toNat ++ blob y.2.2)), false) := by
      unfold wev; rw [wnum_yes h1, wnum_yes h2, wtext_yes h3]; simp
    rw [this, wevs_yes l fun z hz => h z (by simp [hz])]
    unfold encEvs
    simp
theorem fold_no {α : Type} {f : Str × Bool → α → Str × Bool} (hb : ∀ a y, a.2 = true → (f a y).2 = true) {p : α → Prop} (hn : ∀ a y, ¬ p y → (f a y).2 = true) : ∀ (l : List α) {a : Str × Bool}, (¬ ∀ y ∈ l, p y) → (l.foldl f a).2 = true
  | [], _, h => absurd (fun y hy => by cases hy) h
  | y :: l, a, h => by
    rw [List.foldl_cons]
    by_cases c : p y
    · refine fold_no hb hn l fun hall => h fun z hz => ?_
      rcases List.mem_cons.1 hz with rfl | hz
      · exact c
      · exact hall z hz
    · exact fold_bad hb l (hn a y c)
theorem rightF {n : Int} (h : ¬ rightN n = true) : rightN n = false := by simpa using h
theorem lenR {α : Type} {l : List α} {n : Nat} (h : l.length ≤ n) (hn : n < 4611686018427387904) : rightN (l.length : Int) = true := by rw [rightN_iff]; omega
theorem wres_bad (a : Str × Bool) (y : Str × Int) (h : a.2 = true) : (wres a y).2 = true := by unfold wres; exact wnumB (wtextB h)
theorem wev_bad (a : Str × Bool) (y : Int × Int × Str) (h : a.2 = true) : (wev a y).2 = true := by unfold wev; exact wtextB (wnumB (wnumB h))
theorem wrep_yes {x : Rep} (h : okRep x) (hs : Sm20 x) : wrep x = (encRep x, false) := by
  obtain ⟨h1, h2, h3, h4, h5, c1, c2, c3, c4, c5, c6, c7, h6, h7⟩ := h
  have e1 : wr1 x = (vput x.code.toNat ++ vput x.session.toNat ++ vput x.results.length, false) := by
    unfold wr1
    simp only [List.foldl_cons, List.foldl_nil]
    rw [wnum_yes c1, wnum_yes c2, wnum_yes (lenR h1 (by decide)), Int.toNat_natCast]; simp
  have e2 := wress_yes x.results (a := vput x.code.toNat ++ vput x.session.toNat ++ vput x.results.length) fun y hy => ⟨h6 y hy, by have := hs.res y hy; omega⟩
  have cb : rightN (x.bad + 1) = true := by rw [rightN_iff]; omega
  unfold wrep wr6 wr5 wr4 wr3 wr2
  rw [e1, e2, wnum_yes cb, wtext_yes (by have := hs.data; omega)]
  simp only [List.foldl_cons, List.foldl_nil]
  rw [wnum_yes c3, wnum_yes c4, wnum_yes c5, wnum_yes c6, wnum_yes (lenR h2 (by decide)), Int.toNat_natCast, wtexts_yes x.names fun y hy => by have := hs.names y hy; omega]
  rw [wnum_yes (lenR h3 (by decide)), Int.toNat_natCast, wevs_yes x.events fun y hy => ⟨h7 y hy, by have := hs.evs y hy; omega⟩, wnum_yes c7]
  unfold encRep
  simp only [List.append_assoc, List.nil_append]
theorem wrep_no {x : Rep} (h : ¬ okRep x) (h1 : x.results.length ≤ 16) (h2 : x.names.length ≤ 4096) (h3 : x.events.length ≤ 32) (h5 : x.bad < 4611686018427387903) : (wrep x).2 = true := by
  have f6 : (wr6 x).2 = true → (wrep x).2 = true := fun k => wnumB k
  have f5 : (wr5 x).2 = true → (wrep x).2 = true := fun k => f6 (fold_bad wev_bad _ k)
  have f4 : (wr4 x).2 = true → (wrep x).2 = true := fun k => f5 (wnumB (wtexts_bad _ k))
  have f3 : (wr3 x).2 = true → (wrep x).2 = true := fun k => f4 (wnums_bad _ k)
  have f2 : (wr2 x).2 = true → (wrep x).2 = true := fun k => f3 (wtextB (wnumB k))
  have f1 : (wr1 x).2 = true → (wrep x).2 = true := fun k => f2 (fold_bad wres_bad _ k)
  by_cases c1 : rightN x.code = true
  · by_cases c2 : rightN x.session = true
    · by_cases c3 : ∀ y ∈ x.results, rightN y.2 = true
      · by_cases c4 : rightN (x.bad + 1) = true
        · by_cases c5 : rightN x.ver = true
          · by_cases c6 : rightN x.ctr = true
            · by_cases c7 : rightN x.own = true
              · by_cases c8 : rightN x.kids = true
                · by_cases c9 : ∀ y ∈ x.events, rightN y.1 = true ∧ rightN y.2.1 = true
                  · by_cases c10 : rightN x.epoch = true
                    · have := rightN_iff.1 c4
                      exact absurd ⟨h1, h2, h3, by omega, h5, c1, c2, c5, c6, c7, c8, c10, c3, c9⟩ h
                    · exact wnum_no (rightF c10)
                  · refine f6 (fold_no (p := fun y : Int × Int × Str => rightN y.1 = true ∧ rightN y.2.1 = true) wev_bad (fun a y hy => ?_) _ c9)
                    unfold wev
                    refine wtextB ?_
                    by_cases d : rightN y.1 = true
                    · exact wnum_no (rightF fun e => hy ⟨d, e⟩)
                    · exact wnumB (wnum_no (rightF d))
                · exact f4 (wnumB (wnum_no (rightF c8)))
              · exact f4 (wnumB (wnumB (wnum_no (rightF c7))))
            · exact f4 (wnumB (wnumB (wnumB (wnum_no (rightF c6)))))
          · exact f4 (wnumB (wnumB (wnumB (wnumB (wnum_no (rightF c5))))))
        · exact f3 (wtextB (wnum_no (rightF c4)))
      · refine f2 (fold_no (p := fun y : Str × Int => rightN y.2 = true) wres_bad (fun a y hy => ?_) _ c3)
        unfold wres
        exact wnum_no (rightF hy)
    · exact f1 (wnumB (wnum_no (rightF c2)))
  · exact f1 (wnumB (wnumB (wnum_no (rightF c1))))
end Go.Proofs.YtomdigihapdhnaaGreatDoor.Zt

/- A region that draws its order, of two parts: what is lent to the first part is owned again in the second; every operation of the second waits for all of the first. Generic over any program. -/
namespace Go.Proofs.YtomdigihapdhnaaGreatDoor.SL
open Go
set_option linter.unusedVariables false
set_option linter.unusedSimpArgs false
section
variable {P : Program} {B : World} {ro : AH} {N : Nat} {ops : Array Oper}
theorem drawn2_sound {cl : Nat → Nat} {anc : List (Nat × Nat)} (ha : ancOk ops anc = true) (hlt : ∀ i, ∀ e ∈ edgesOf ops i, e < i) {Q : Exit → Fr → AH → Prop} (hK : Closed (Q .normal)) {φ ψ : AH}
    (hp : ∀ b o, ψ b = some o → φ b = none ∧ ro b = none) (l2 : List Nat) :
    ∀ (m : Nat) (l1 : List Nat) (listed : Array Bool) {fr : Fr} {σ : AH} {a : Act} {w : World}, l1.length = m → listed.size = ops.size → chk ops cl anc (l1 ++ l2) = true → (∀ j ∈ l2, ∀ i ∈ l1, i ∈ edgesOf ops j ∨ (i, j) ∈ anc) →
      (∀ i, i < ops.size → (listed.getD i true = false ↔ i ∈ l1 ++ l2)) → (∀ i, i < ops.size → i ∉ l1 ++ l2 → ∀ e ∈ edgesOf ops i, e ∉ l1 ++ l2) →
      DOps P B (join ro ψ) N ops cl (fun fr σ => ∃ fr', FrEq fr' fr ∧ (Disj ψ σ → DOps P B ro N ops cl (Q .normal) l2 fr' (join ψ σ))) l1 fr σ → Own B (join ro ψ) φ σ w → Fits N fr a → wpAny P .any ops (lift B ro N φ Q) (m + l2.length) listed a w := by
  have hK1 : Closed (fun fr σ => ∃ fr', FrEq fr' fr ∧ (Disj ψ σ → DOps P B ro N ops cl (Q .normal) l2 fr' (join ψ σ))) := fun fr fr' σ he ⟨fr2, h1, h2⟩ => ⟨fr2, fun i => (h1 i).trans (he i), h2⟩
  intro m
  induction m with
  | zero =>
    intro l1 listed fr σ a w hn hsz hc haft hli hcl h ho hf
    obtain rfl : l1 = [] := List.length_eq_zero_iff.1 hn
    obtain ⟨fr', he, hd⟩ := h
    obtain ⟨g1, g2⟩ := ho.unlend hp
    rw [Nat.zero_add]
    exact drawn_sound ha hlt hK l2.length l2 listed rfl hsz hc hli hcl (hd g2) g1 ⟨hf.size, hf.defers, fun i v hi => hf.has i v (by rw [← he i]; exact hi)⟩
  | succ m ih =>
    intro l1 listed fr σ a w hn hsz hc haft hli hcl h ho hf
    rw [show m + 1 + l2.length = (m + l2.length) + 1 by omega]
    obtain ⟨l, hl⟩ : ∃ l, l = l1 ++ l2 := ⟨_, rfl⟩
    rw [← hl] at hc hli hcl
    have hlist : ∀ e, e < ops.size → e ∉ l → listed.getD e false = true := by
      intro e he hne
      have h1 : ¬ listed.getD e true = false := fun q => hne ((hli e he).1 q)
      have hlt' : e < listed.size := by omega
      simp only [Array.getD_eq_getD_getElem?, Array.getElem?_eq_getElem hlt', Option.getD_some] at h1 ⊢
      simpa using h1
    refine ⟨?_, ?_⟩
    · intro hr
      exfalso
      cases l with
      | nil => have := congrArg List.length hl; simp at this; omega
      | cons x rest =>
        have hx := chk_lt hc x (List.mem_cons_self ..)
        have : x ∈ Region.ready .any ops listed := by
          refine ready_iff.2 ⟨hx.1, (hli x hx.1).2 (List.mem_cons_self ..), ops[x], by simp [hx.1], ?_⟩
          intro e he
          have he' : e ∈ edgesOf ops x := by simp [edgesOf, hx.1]; exact he
          simp only [chk, Bool.and_eq_true] at hc
          have h1 := List.all_eq_true.1 hc.1.1.1.1 e he'
          simp only [Bool.and_eq_true, decide_eq_true_eq, Bool.not_eq_true', List.contains_iff_mem, ← Bool.not_eq_true] at h1
          exact hlist e (by have := h1.1; omega) h1.2
        rw [hr] at this; cases this
    · intro i hi
      obtain ⟨h1, h2, o, hoi, h3⟩ := ready_iff.1 hi
      have hil := (hli i h1).1 h2
      have hedge0 : ∀ e ∈ edgesOf ops i, e ∉ l := by
        intro e he hm
        have he2 : e ∈ bound o := by simpa [edgesOf, hoi] using he
        have h4 := h3 e he2
        have hlt' := (chk_lt hc e hm).1
        have := (hli e hlt').2 hm
        have hs : e < listed.size := by omega
        simp only [Array.getD_eq_getD_getElem?, Array.getElem?_eq_getElem hs, Option.getD_some] at this h4
        rw [this] at h4; cases h4
      have hi1 : i ∈ l1 := by
        rw [hl] at hil
        rcases List.mem_append.1 hil with hm2 | hm2
        · exact hm2
        · exfalso
          cases l1 with
          | nil => cases hn
          | cons x r =>
            have hxl : x ∈ l := by rw [hl]; exact List.mem_append_left _ (List.mem_cons_self ..)
            rcases haft i hm2 x (List.mem_cons_self ..) with h5 | h5
            · exact hedge0 x h5 hxl
            · have hcl' : ∀ j, (j < ops.size → j ∉ l) → ∀ e ∈ edgesOf ops j, (e < ops.size → e ∉ l) := by
                intro j hj e he hes
                by_cases hjs : j < ops.size
                · exact hcl j hjs (hj hjs) e he
                · simp [edgesOf, Array.getElem?_eq_none (Nat.le_of_not_lt hjs)] at he
              exact absurd hxl (anc_listed (L := fun j => j < ops.size → j ∉ l) ha hlt hcl' x i (fun e he _ => hedge0 e he) h5 (chk_lt hc x hxl).1)
      obtain ⟨pre, post1, rfl⟩ := List.append_of_mem hi1
      obtain ⟨post, hpost⟩ : ∃ post, post = post1 ++ l2 := ⟨_, rfl⟩
      have hl' : l = pre ++ i :: post := by rw [hl, hpost]; simp
      subst hl'
      have hedge : ∀ e ∈ edgesOf ops i, e ∉ pre ++ i :: post := by
        intro e he hm
        have he2 : e ∈ bound o := by simpa [edgesOf, hoi] using he
        have h4 := h3 e he2
        have hlt' := (chk_lt hc e hm).1
        have := (hli e hlt').2 hm
        have hs : e < listed.size := by omega
        simp only [Array.getD_eq_getD_getElem?, Array.getElem?_eq_getElem hs, Option.getD_some] at this h4
        rw [this] at h4; cases h4
      -- all that stand ahead of i may be passed
      have hpass : ∀ x ∈ pre, swapOk ops cl x i = true := by
        have gen : ∀ (p : List Nat), chk ops cl anc (p ++ i :: post) = true → ∀ x ∈ p, swapOk ops cl x i = true ∨ x ∈ edgesOf ops i ∨ (x, i) ∈ anc := by
          intro p
          induction p with
          | nil => intro _ x hx; cases hx
          | cons y p ihp =>
            intro hc x hx
            simp only [List.cons_append, chk, Bool.and_eq_true] at hc
            rcases List.mem_cons.1 hx with rfl | hx
            · have := List.all_eq_true.1 hc.1.2 i (by simp)
              simp only [Bool.or_eq_true, List.contains_iff_mem] at this
              rcases this with (h | h) | h
              · exact .inl h
              · exact .inr (.inl h)
              · exact .inr (.inr h)
            · exact ihp hc.2 x hx
        intro x hx
        have hxm : x ∈ pre ++ i :: post := List.mem_append_left _ hx
        rcases gen pre hc x hx with h | h | h
        · exact h
        · exact absurd hxm (hedge x h)
        · have hcl' : ∀ j, (j < ops.size → j ∉ pre ++ i :: post) → ∀ e ∈ edgesOf ops j, (e < ops.size → e ∉ pre ++ i :: post) := by
            intro j hj e he hes
            by_cases hjs : j < ops.size
            · exact hcl j hjs (hj hjs) e he
            · simp [edgesOf, Array.getElem?_eq_none (Nat.le_of_not_lt hjs)] at he
          exact absurd hxm (anc_listed (L := fun j => j < ops.size → j ∉ pre ++ i :: post) ha hlt hcl' x i (fun e he _ => hedge e he) h (chk_lt hc x hxm).1)
      have hd := extract (P := P) (B := B) (N := N) hK1 post1 pre hpass ⟨φ, w, ho⟩ h
      -- the list that is left
      have hnd : i ∉ pre ++ post := by
        have : (pre ++ i :: post).Nodup := by
          have gen : ∀ l : List Nat, chk ops cl anc l = true → l.Nodup := by
            intro l
            induction l with
            | nil => intro _; exact List.nodup_nil
            | cons y r ihr =>
              intro hc
              simp only [chk, Bool.and_eq_true, Bool.not_eq_true'] at hc
              refine List.nodup_cons.2 ⟨?_, ihr hc.2⟩
              have := hc.1.1.1.2
              intro hm; rw [List.contains_iff_mem.2 hm] at this; cases this
          exact gen _ hc
        have := (List.perm_middle (a := i) (l₁ := pre) (l₂ := post)).nodup_iff.1 this
        exact (List.nodup_cons.1 this).1
      have hc' : chk ops cl anc (pre ++ post) = true := by
        have gen : ∀ (p : List Nat), chk ops cl anc (p ++ i :: post) = true → chk ops cl anc (p ++ post) = true := by
          intro p
          induction p with
          | nil => intro hc; simp only [List.nil_append, chk, Bool.and_eq_true] at hc; exact hc.2
          | cons y p ihp =>
            intro hc
            simp only [List.cons_append, chk, Bool.and_eq_true] at hc ⊢
            obtain ⟨⟨⟨⟨c1, c2⟩, c3⟩, c4⟩, c5⟩ := hc
            refine ⟨⟨⟨⟨?_, ?_⟩, c3⟩, ?_⟩, ihp c5⟩
            · refine List.all_eq_true.2 fun e he => ?_
              have := List.all_eq_true.1 c1 e he
              simp only [Bool.and_eq_true, Bool.not_eq_true', ← Bool.not_eq_true, List.contains_iff_mem] at this ⊢
              refine ⟨this.1, fun hm => this.2 ?_⟩
              simp only [List.mem_cons, List.mem_append] at hm ⊢
              rcases hm with h | h | h
              · exact .inl h
              · exact .inr (.inl h)
              · exact .inr (.inr (.inr h))
            · simp only [Bool.not_eq_true', ← Bool.not_eq_true, List.contains_iff_mem] at c2 ⊢
              intro hm; apply c2
              simp only [List.mem_append, List.mem_cons] at hm ⊢
              exact hm.imp id .inr
            · refine List.all_eq_true.2 fun j hj => List.all_eq_true.1 c4 j ?_
              simp only [List.mem_append, List.mem_cons] at hj ⊢
              exact hj.imp id .inr
        exact gen pre hc
      have hmem : ∀ j, j ∈ pre ++ post ↔ j ∈ pre ++ i :: post ∧ j ≠ i := by
        intro j
        simp only [List.mem_append, List.mem_cons]
        constructor
        · intro (hh : j ∈ pre ∨ j ∈ post)
          refine ⟨hh.imp id .inr, fun e => ?_⟩
          subst e; exact hnd (List.mem_append.2 hh)
        · rintro ⟨h | h | h, hne⟩
          · exact .inl h
          · exact absurd h hne
          · exact .inr h
      have hlen : (pre ++ post1).length = m := by simp at hn ⊢; omega
      have hset : ∀ j, j < ops.size → ((listed.setIfInBounds i true).getD j true = false ↔ j ∈ pre ++ post) := by
        intro j hj
        rw [hmem]
        by_cases e : j = i
        · subst e
          have : j < listed.size := by omega
          simp [Array.getD_eq_getD_getElem?, this]
        · rw [drawn_sound.Region_getD_set e]
          constructor
          · intro h; exact ⟨(hli j hj).1 h, e⟩
          · intro h; exact (hli j hj).2 h.1
      have hcl2 : ∀ j, j < ops.size → j ∉ pre ++ post → ∀ e ∈ edgesOf ops j, e ∉ pre ++ post := by
        intro j hj hjn e he hm
        have hm' := ((hmem e).1 hm).1
        by_cases e' : j = i
        · subst e'; exact hedge e he hm'
        · exact hcl j hj (fun hh => hjn ((hmem j).2 ⟨hh, e'⟩)) e he hm'
      have epp : (pre ++ post1) ++ l2 = pre ++ post := by rw [hpost, List.append_assoc]
      have kont : ∀ fr σ a w, DOps P B (join ro ψ) N ops cl (fun fr σ => ∃ fr', FrEq fr' fr ∧ (Disj ψ σ → DOps P B ro N ops cl (Q .normal) l2 fr' (join ψ σ))) (pre ++ post1) fr σ → Own B (join ro ψ) φ σ w → Fits N fr a → wpAny P .any ops (lift B ro N φ Q) (m + l2.length) (listed.setIfInBounds i true) a w :=
        fun fr σ a w hk ho hf => ih (pre ++ post1) _ hlen (by simpa using hsz) (by rw [epp]; exact hc') (fun j hj x hx => haft j hj x (by simp only [List.mem_append, List.mem_cons] at hx ⊢; exact hx.imp id .inr)) (by rw [epp]; exact hset) (by rw [epp]; exact hcl2) hk ho hf
      exact drawn_sound.D1.sound hoi hd ho hf kont
def after2 (ops : Array Oper) (anc : List (Nat × Nat)) (l1 l2 : List Nat) : Bool := l2.all fun j => l1.all fun i => (edgesOf ops j).contains i || anc.contains (i, j)
theorem AW.drawn2 {id : Nat} {Q : Exit → Fr → AH → Prop} {fr : Fr} {σ : AH} {K : AH → AH → Prop} (cl : Nat → Nat) (anc : List (Nat × Nat)) (l1 l2 : List Nat) (hm : P.follows .mixedOrders = true) (hl : lent σ K)
    (hc : (chk ops cl anc (l1 ++ l2) && ancOk ops anc && full ops.size (l1 ++ l2) && ((l1 ++ l2).length == ops.size) && after2 ops anc l1 l2) = true)
    (h : ∀ ψ τ, K ψ τ → DOps P B (join ro ψ) N ops cl (fun fr σ => ∃ fr', FrEq fr' fr ∧ (Disj ψ σ → DOps P B ro N ops cl (fun fr σ => ∃ fr', FrEq fr' fr ∧ Q .normal fr' σ) l2 fr' (join ψ σ))) l1 fr τ) : AW P B ro N (.region id ops true) Q fr σ := by
  obtain ⟨ψ, τ, hd, rfl, hk⟩ := hl
  have h := h ψ τ hk
  simp only [Bool.and_eq_true, beq_iff_eq] at hc
  obtain ⟨⟨⟨⟨c1, c2⟩, c3⟩, c4⟩, c5⟩ := hc
  intro φ w a ho hf
  refine wp_region_any hm ?_
  have hp : ∀ b o, ψ b = some o → φ b = none ∧ ro b = none := fun b o hs => (ho.own b o (join_left hs)).2
  have hall : ∀ i, i < ops.size → i ∈ l1 ++ l2 := fun i hi => List.contains_iff_mem.1 (List.all_eq_true.1 c3 i (List.mem_range.2 hi))
  have hlt : ∀ i, ∀ e ∈ edgesOf ops i, e < i := by
    intro i e he
    by_cases hi : i < ops.size
    · exact (chk_lt c1 i (hall i hi)).2 e he
    · simp [edgesOf, Array.getElem?_eq_none (Nat.le_of_not_lt hi)] at he
  have hw : Own B (join ro ψ) φ τ { w with drawn := w.drawn + 1 } := (ho.lend hd).drawn _
  have haft : ∀ j ∈ l2, ∀ i ∈ l1, i ∈ edgesOf ops j ∨ (i, j) ∈ anc := fun j hj i hi => by
    have := List.all_eq_true.1 (List.all_eq_true.1 c5 j hj) i hi
    simpa using this
  have := drawn2_sound (P := P) (B := B) (ro := ro) (N := N) (ops := ops) (cl := cl) (anc := anc) c2 hlt
    (Q := fun e fr σ => e = .normal ∧ ∃ fr', FrEq fr' fr ∧ Q .normal fr' σ)
    (fun fr fr' σ he ⟨h0, fr2, h1, h2⟩ => ⟨h0, fr2, fun i => (h1 i).trans (he i), h2⟩) (φ := φ) (ψ := ψ) hp l2 l1.length l1 (Array.replicate ops.size false)
    (w := { w with drawn := w.drawn + 1 }) (a := a) (fr := fr) (σ := τ) rfl (by simp) c1 haft
    (fun i hi => ⟨fun _ => hall i hi, fun _ => by simp [hi]⟩) (fun i hi hn => absurd (hall i hi) hn) ?_ hw hf
  · have hlen : l1.length + l2.length = ops.size := by rw [← List.length_append]; exact c4
    rw [hlen] at this
    refine AW.drawn.wpAny_post ?_ _ _ this
    rintro e a' w' ⟨fr', σ', ⟨rfl, fr2, he, hq⟩, ho', hf'⟩
    exact ⟨fr2, _, hq, ho', ⟨hf'.size, hf'.defers, fun i v hi => hf'.has i v (by rw [← he i]; exact hi)⟩⟩
  · refine AW.drawn.DOps_post ?_ l1 h
    rintro fr σ ⟨fr', h1, h2⟩
    refine ⟨fr', h1, fun hd => AW.drawn.DOps_post ?_ l2 (h2 hd)⟩
    intro fr σ hk; exact ⟨rfl, hk⟩
end
end Go.Proofs.YtomdigihapdhnaaGreatDoor.SL
