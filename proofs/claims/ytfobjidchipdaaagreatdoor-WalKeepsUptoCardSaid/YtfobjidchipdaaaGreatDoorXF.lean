/- WsB, WiD, WsC, SnA -/
import Derived.Shelf.Strings.SlTrimAscii
import Derived.Lib.AtoiErrMem
import Derived.Test.YtfobjidchipdaaaGreatDoorXE
/- Sums, four bytes, frames, numbers: the walk of the wire's functions that snapshots and logs use. -/
namespace Go.Proofs.YtfobjidchipdaaaGreatDoor.Wi
open Go Go.Proofs.YtfobjidchipdaaaGreatDoor.SL Go.Proofs.YtfobjidchipdaaaGreatDoor.G Go.Proofs.YtfobjidchipdaaaGreatDoor.Pa Go.Proofs.YtfobjidchipdaaaGreatDoor.Zt
set_option linter.unusedSimpArgs false
set_option linter.unusedVariables false
set_option maxRecDepth 100000
variable {B : World} {ro σ σ' : AH} {tag tag' : Nat → Nat}
theorem w32_eq {n : Int} (h0 : 0 ≤ n) (h1 : n < 4294967296) : IntKind.u32.wrap n = n := by
  unfold IntKind.wrap
  show (if false = true then _ else _) = n
  rw [if_neg (by decide)]
  show n % 4294967296 = n
  omega
theorem xor32 {a b : Nat} (ha : a < 4294967296) (hb : b < 4294967296) : bitXor .u32 (a : Int) (b : Int) = ((a ^^^ b : Nat) : Int) := by
  unfold bitXor
  have e : (BitVec.ofInt IntKind.u32.bits (a : Int) ^^^ BitVec.ofInt IntKind.u32.bits (b : Int)).toNat = a ^^^ b := by
    rw [BitVec.toNat_xor, BitVec.ofInt_natCast, BitVec.ofInt_natCast, BitVec.toNat_ofNat, BitVec.toNat_ofNat]
    rw [show IntKind.u32.bits = 32 from rfl, Nat.mod_eq_of_lt (by omega), Nat.mod_eq_of_lt (by omega)]
  rw [e]
  have := Nat.xor_lt_two_pow (n := 32) (x := a) (y := b) (by omega) (by omega)
  rw [w32_eq (by omega) (by omega)]
theorem and1 {a : Nat} (ha : a < 4294967296) : bitAnd .u32 (a : Int) 1 = ((a % 2 : Nat) : Int) := by
  unfold bitAnd
  have e : (BitVec.ofInt IntKind.u32.bits (a : Int) &&& BitVec.ofInt IntKind.u32.bits 1).toNat = a % 2 := by
    rw [show (1 : Int) = ((1 : Nat) : Int) from rfl, BitVec.toNat_and, BitVec.ofInt_natCast, BitVec.ofInt_natCast, BitVec.toNat_ofNat, BitVec.toNat_ofNat]
    rw [show IntKind.u32.bits = 32 from rfl, Nat.mod_eq_of_lt (by omega), Nat.mod_eq_of_lt (by omega), Nat.and_one_is_mod]
  rw [e]
  rw [w32_eq (by omega) (by omega)]
theorem half (a : Nat) : Int.fdiv (a : Int) (2 ^ (min (Int.toNat 1) 32)) = ((a / 2 : Nat) : Int) := by
  rw [show (2 : Int) ^ (min (Int.toNat 1) 32) = 2 from by decide, Int.fdiv_eq_ediv_of_nonneg _ (by decide)]; omega
def bits : Nat → Nat → Nat
  | 0, s => s
  | m + 1, s => bits m (crcBit s)
theorem bits8 (s : Nat) (c : UInt8) : bits 8 (s ^^^ c.toNat) = crcByte s c := rfl
theorem not32 {a : Nat} (ha : a < 4294967296) : bitXor .u32 (if IntKind.u32.signed then -1 else IntKind.u32.max) (a : Int) = ((4294967295 - a : Nat) : Int) := by
  rw [if_neg (by decide), show IntKind.u32.max = ((4294967295 : Nat) : Int) from by decide, xor32 (by decide) ha]
  congr 1
  apply Nat.eq_of_testBit_eq
  intro i
  rw [Nat.testBit_xor]
  have h2 := Nat.testBit_two_pow_sub_succ (n := 32) (x := a) (by omega) i
  rw [show (2 : Nat) ^ 32 - (a + 1) = 4294967295 - a from by omega] at h2
  rw [h2, show (4294967295 : Nat) = 2 ^ 32 - 1 from rfl, Nat.testBit_two_pow_sub_one]
  by_cases hi : i < 32
  · simp [hi]
  · simp [hi]
    exact Nat.testBit_lt_two_pow (Nat.lt_of_lt_of_le (show a < 2 ^ 32 by omega) (Nat.pow_le_pow_right (by decide) (by omega)))
theorem sum_ok {s : Sl} {l : Str} {Q : Int → AH → Prop} (h : SL.Read ro σ s (l.map vU)) (hl : l.length < 4611686018427387904) (hQ : Q (crc l : Nat) σ) : c_wire_Sum B ro s σ Q := by
  refine wire_Sum_ok fun _ => ?_
  unfold f_wire_Sum
  have hln : s.len = l.length := by rw [h.1, List.length_map]
  have hrl : ∀ j, (l.take j).foldl crcByte 4294967295 < 4294967296 := fun j => crcR_lt (l.take j)
  suffices ∀ (m j : Nat), j + m = l.length → lfpD (l3_wire_Sum B ro s Q) ((((l.take j).foldl crcByte 4294967295 : Nat) : Int), (j : Int)) σ from this _ 0 (Nat.zero_add _)
  intro m
  induction m with
  | zero =>
    intro j hj
    refine lfpD.intro ?_
    unfold l3_wire_Sum
    simp only
    rw [if_neg (by omega)]
    unfold j1_wire_Sum
    have := hrl j
    rw [not32 (hrl j), w64_eq (by omega) (by omega)]
    rw [List.take_of_length_le (by omega)]
    exact hQ
  | succ m ih =>
    intro j hj
    have hjl : j < l.length := by omega
    have hjr := hrl j
    refine lfpD.intro ?_
    unfold l3_wire_Sum
    simp only
    rw [if_pos (by omega)]
    obtain ⟨p, hp⟩ : ∃ p, s.a = some p := by
      cases ha : s.a with
      | none => have := h.2.1 ha; simp at this; subst this; simp at hjl
      | some p => exact ⟨p, rfl⟩
    refine ⟨p, hp, by omega, by omega, (l[j].toNat : Int), ?_, ?_⟩
    · rw [Int.toNat_natCast, Nat.mul_one]
      refine h.2.2 p hp j _ ?_
      rw [List.getElem?_map, List.getElem?_eq_getElem hjl]; rfl
    · have hc := u8_lt l[j]
      have et : (l.take (j + 1)).foldl crcByte 4294967295 = crcByte ((l.take j).foldl crcByte 4294967295) l[j] := by
        rw [List.take_add_one, List.getElem?_eq_getElem hjl, List.foldl_append]; rfl
      have ihj := ih (j + 1) (by omega)
      rw [et] at ihj
      generalize (l.take j).foldl crcByte 4294967295 = a at *
      generalize l[j] = c at *
      rw [w32_eq (by omega) (by omega), xor32 hjr (by omega)]
      rw [← bits8] at ihj
      have hx : a ^^^ c.toNat < 4294967296 := Nat.xor_lt_two_pow (n := 32) (by omega) (by omega)
      generalize a ^^^ c.toNat = b at *
      clear et hjr hrl
      suffices ∀ (k i b : Nat), i + k = 8 → b < 4294967296 → lfpD (l3_wire_Sum B ro s Q) (((bits k b : Nat) : Int), ((j + 1 : Nat) : Int)) σ → lfpD (l10_wire_Sum B ro s (j : Int) Q (lfpD (l3_wire_Sum B ro s Q))) ((b : Int), (i : Int)) σ from this 8 0 b rfl hx ihj
      intro k
      induction k with
      | zero =>
        intro i b hi hb hK
        refine lfpD.intro ?_
        unfold l10_wire_Sum
        simp only
        rw [if_neg (by omega)]
        unfold j6_wire_Sum
        rw [Pa.inc j (by omega)]
        exact hK
      | succ k ihk =>
        intro i b hi hb hK
        refine lfpD.intro ?_
        unfold l10_wire_Sum
        simp only
        rw [if_pos (by omega), and1 hb, half]
        have hK2 : lfpD (l3_wire_Sum B ro s Q) (((bits k (crcBit b) : Nat) : Int), ((j + 1 : Nat) : Int)) σ := hK
        have hlt := crcBit_lt hb
        by_cases c1 : b % 2 = 1
        · rw [if_pos (by omega)]
          unfold j13_wire_Sum
          rw [Pa.inc i (by omega), show (3988292384 : Int) = ((3988292384 : Nat) : Int) from rfl, xor32 (by omega) (by decide)]
          have e : crcBit b = (b / 2) ^^^ 3988292384 := by unfold crcBit; rw [if_pos c1]
          rw [e] at hK2 hlt
          exact ihk (i + 1) _ (by omega) hlt hK2
        · rw [if_neg (by omega)]
          unfold j13_wire_Sum
          rw [Pa.inc i (by omega)]
          have e : crcBit b = b / 2 := by unfold crcBit; rw [if_neg c1]
          rw [e] at hK2 hlt
          exact ihk (i + 1) _ (by omega) hlt hK2
theorem bor {n m k : Nat} (hn : n < 2 ^ k) (hm : 2 ^ k * m + n < 9223372036854775808) : bitOr .i64 (n : Int) ((m * 2 ^ k : Nat) : Int) = ((n + 2 ^ k * m : Nat) : Int) := by
  unfold bitOr
  have h1 : m * 2 ^ k = 2 ^ k * m := Nat.mul_comm _ _
  have e : (BitVec.ofInt IntKind.i64.bits (n : Int) ||| BitVec.ofInt IntKind.i64.bits ((m * 2 ^ k : Nat) : Int)).toNat = n + 2 ^ k * m := by
    rw [BitVec.toNat_or, BitVec.ofInt_natCast, BitVec.ofInt_natCast, BitVec.toNat_ofNat, BitVec.toNat_ofNat]
    rw [show IntKind.i64.bits = 64 from rfl, Nat.mod_eq_of_lt (by omega), Nat.mod_eq_of_lt (by omega)]
    rw [Nat.or_comm, h1, ← Nat.two_pow_add_eq_or_of_lt hn]
    omega
  rw [e, w64_eq (by omega) (by omega)]
theorem value_ok {s : Sl} {l : Str} {Q : Int → AH → Prop} (h : SL.Read ro σ s (l.map vU)) (h4 : 4 ≤ l.length) (hQ : Q (value l : Nat) σ) : c_wire_value B ro s σ Q := by
  refine wire_value_ok fun _ => ?_
  unfold f_wire_value
  have hln : s.len = l.length := by rw [h.1, List.length_map]
  obtain ⟨a, b, c, d, r, rfl⟩ : ∃ a b c d r, l = a :: b :: c :: d :: r := by
    match l, h4 with
    | a :: b :: c :: d :: r, _ => exact ⟨a, b, c, d, r, rfl⟩
  obtain ⟨p, hp⟩ : ∃ p, s.a = some p := by
    cases ha : s.a with
    | none => have := h.2.1 ha; cases this
    | some p => exact ⟨p, rfl⟩
  have hg := h.2.2 p hp
  refine ⟨p, hp, by omega, by omega, p, hp, by omega, by omega, p, hp, by omega, by omega, p, hp, by omega, by omega, (a.toNat : Int), hg 0 _ rfl, (b.toNat : Int), hg 1 _ rfl, (c.toNat : Int), hg 2 _ rfl, (d.toNat : Int), hg 3 _ rfl, ?_⟩
  have ha := u8_lt a
  have hb := u8_lt b
  have hc := u8_lt c
  have hd := u8_lt d
  change Q ((a.toNat + 256 * b.toNat + 65536 * c.toNat + 16777216 * d.toNat : Nat) : Int) σ at hQ
  generalize a.toNat = a at *
  generalize b.toNat = b at *
  generalize c.toNat = c at *
  generalize d.toNat = d at *
  rw [show (2 : Int) ^ (min (Int.toNat 8) 64) = ((2 ^ 8 : Nat) : Int) from by decide, show (2 : Int) ^ (min (Int.toNat 16) 64) = ((2 ^ 16 : Nat) : Int) from by decide, show (2 : Int) ^ (min (Int.toNat 24) 64) = ((2 ^ 24 : Nat) : Int) from by decide]
  rw [w64_eq (n := (a : Int)) (by omega) (by omega), w64_eq (n := (b : Int)) (by omega) (by omega), w64_eq (n := (c : Int)) (by omega) (by omega), w64_eq (n := (d : Int)) (by omega) (by omega)]
  rw [← Int.natCast_mul, ← Int.natCast_mul, ← Int.natCast_mul]
  rw [w64_eq (n := ((b * 2 ^ 8 : Nat) : Int)) (by omega) (by omega), w64_eq (n := ((c * 2 ^ 16 : Nat) : Int)) (by omega) (by omega), w64_eq (n := ((d * 2 ^ 24 : Nat) : Int)) (by omega) (by omega)]
  rw [bor (k := 8) (by omega) (by omega), bor (k := 16) (by omega) (by omega), bor (k := 24) (by omega) (by omega)]
  have e : a + 2 ^ 8 * b + 2 ^ 16 * c + 2 ^ 24 * d = a + 256 * b + 65536 * c + 16777216 * d := by omega
  rw [e]; exact hQ
theorem u8mod (n : Nat) : IntKind.u8.wrap (n : Int) = ((n % 256 : Nat) : Int) := by
  unfold IntKind.wrap
  rw [if_neg (by simp [IntKind.signed])]
  show (n : Int) % 256 = _
  omega
theorem four_ok {n q : Nat} {Q : Sl → AH → Prop} (hn : n < 4294967296) (hQ : ∀ s tag' σ', (∀ R, Step R ro tag σ tag' σ') → s.len = s.cap → Row tag' σ' q 5 s ((four n).map vU) → Q s σ') : c_wire_four B ro (n : Int) σ Q := by
  refine wire_four_ok fun hs => ?_
  unfold f_wire_four
  refine nw_cells (tag := tag) q hs fun x tag1 σ1 st1 r1 => ?_
  refine hQ _ tag1 σ1 st1 rfl ?_
  have fd : ∀ k : Nat, k ≤ 64 → Int.fdiv (n : Int) (2 ^ k) = ((n / 2 ^ k : Nat) : Int) := fun k hk => by
    have : ((2 : Int) ^ k) = ((2 ^ k : Nat) : Int) := by simp
    rw [this, Int.fdiv_eq_ediv_of_nonneg _ (Int.natCast_nonneg _)]; rfl
  rw [show min (Int.toNat 8) 64 = 8 from by decide, show min (Int.toNat 16) 64 = 16 from by decide, show min (Int.toNat 24) 64 = 24 from by decide, fd 8 (by decide), fd 16 (by decide), fd 24 (by decide), u8mod, u8mod, u8mod, u8mod] at r1
  have e : (four n).map vU = [.int .u8 ((n % 256 : Nat) : Int), .int .u8 ((n / 2 ^ 8 % 256 : Nat) : Int), .int .u8 ((n / 2 ^ 16 % 256 : Nat) : Int), .int .u8 ((n / 2 ^ 24 % 256 : Nat) : Int)] := by
    unfold four
    simp only [List.map_cons, List.map_nil, vU]
    rw [u8_of _ (by omega), u8_of _ (by omega), u8_of _ (by omega), u8_of _ (by omega)]
  rw [e]
  exact r1
end Go.Proofs.YtfobjidchipdaaaGreatDoor.Wi

/- The wire, the walk: a reader's calls. -/
namespace Go.Proofs.YtfobjidchipdaaaGreatDoor.Wi
open Go Go.Proofs.YtfobjidchipdaaaGreatDoor.SL Go.Proofs.YtfobjidchipdaaaGreatDoor.G Go.Proofs.YtfobjidchipdaaaGreatDoor.Zt
set_option linter.unusedSimpArgs false
set_option linter.unusedVariables false
variable {B : World} {ro σ σ' : AH} {tag tag' : Nat → Nat}

/-- the end of a row of bytes -/
def Tail (tag : Nat → Nat) (σ : AH) (q : Nat) (s : Sl) (l : Str) : Prop :=
  (s = ⟨none, 0, 0⟩ ∧ l = []) ∨ ∃ (g : Nat) (cs : Array Value) (k : Nat), s.a = some ⟨g, k, none⟩ ∧ tag g = q ∧ σ g = some (.cells cs 5) ∧ s.len = l.length ∧ s.len ≤ s.cap ∧ ∀ (i : Nat) (c : UInt8), l[i]? = some c → cs[k + i]? = some (vU c)
theorem Tail.len {q : Nat} {s : Sl} {l : Str} (h : Tail tag σ q s l) : s.len = l.length := by
  rcases h with ⟨rfl, rfl⟩ | ⟨_, _, _, _, _, _, h, _⟩
  · rfl
  · exact h
theorem Tail.cap {q : Nat} {s : Sl} {l : Str} (h : Tail tag σ q s l) : s.len ≤ s.cap := by
  rcases h with ⟨rfl, rfl⟩ | ⟨_, _, _, _, _, _, _, h, _⟩
  · exact Nat.le_refl _
  · exact h
theorem Tail.keep {R : List Nat} {q : Nat} {s : Sl} {l : Str} (h : Tail tag σ q s l) (k : Step R ro tag σ tag' σ') (hr : q ∉ R) : Tail tag' σ' q s l := by
  rcases h with h | ⟨g, cs, o, ha, ht, hb, hx⟩
  · exact .inl h
  · obtain ⟨t, e⟩ := k.keep g _ hb (by rw [ht]; exact hr)
    exact .inr ⟨g, cs, o, ha, t.trans ht, e, hx⟩
theorem Tail.of_row {q : Nat} {s : Sl} {l : Str} (h : Row tag σ q 5 s (l.map vU)) : Tail tag σ q s l := by
  rcases h with ⟨rfl, h⟩ | ⟨b, cs, ha, ht, hb, hln, hc, hle, hg⟩
  · exact .inl ⟨rfl, by simpa using h⟩
  · refine .inr ⟨b, cs, 0, ha, ht, hb, by rw [hln, List.length_map], hle, fun i c hi => ?_⟩
    have hil : i < l.length := by
      rcases Nat.lt_or_ge i l.length with h | h
      · exact h
      · rw [List.getElem?_eq_none h] at hi; cases hi
    rw [Nat.zero_add, hg i (by simpa using hil), List.getElem?_map, hi]; rfl
theorem Tail.read {q : Nat} {s : Sl} {l : Str} (h : Tail tag σ q s l) (hs : SL.Sep ro σ) : SL.Read ro σ s (l.map vU) := by
  refine ⟨by rw [h.len, List.length_map], fun hn => ?_, fun p hp i v hv => ?_⟩
  · rcases h with ⟨_, rfl⟩ | ⟨_, _, _, ha, _⟩
    · rfl
    · rw [hn] at ha; cases ha
  · rcases h with ⟨rfl, _⟩ | ⟨g, cs, k, ha, ht, hb, hln, hle, hg⟩
    · cases hp
    · rw [hp] at ha; cases ha
      rw [List.getElem?_map] at hv
      obtain ⟨c, hc, rfl⟩ := Option.map_eq_some_iff.1 hv
      unfold acell rd
      simp only [add_add, hs g _ hb, hb, cellOf]
      exact hg i c hc
theorem Tail.drop {q e : Nat} {s : Sl} {l : Str} (h : Tail tag σ q s l) (he : e ≤ l.length) : Tail tag σ q ⟨cutA s.a e s.cap 1, s.len - e, s.cap - e⟩ (l.drop e) := by
  rcases h with ⟨rfl, rfl⟩ | ⟨g, cs, k, ha, ht, hb, hln, hle, hg⟩
  · have : e = 0 := by simpa using he
    subst this
    exact .inl ⟨by simp [cutA], rfl⟩
  · unfold cutA
    by_cases hc : s.cap = e
    · rw [if_pos hc]
      refine .inr ⟨g, cs, k, ha, ht, hb, by simp; omega, by simp; omega, fun i c hi => ?_⟩
      rw [List.drop_of_length_le (by omega)] at hi; cases hi
    · rw [if_neg hc]
      refine .inr ⟨g, cs, k + e, by simp [ha, add_add], ht, hb, by simp; omega, by simp; omega, fun i c hi => ?_⟩
      rw [List.getElem?_drop] at hi
      rw [Nat.add_assoc]; exact hg (e + i) c hi
/-- a reader at A, of the role r -/
def RdAt (tag : Nat → Nat) (σ : AH) (r A : Nat) (x : Rd) : Prop :=
  ∃ s : Sl, Row tag σ r 190 ⟨some ⟨A, 0, none⟩, 2, 2⟩ [Sl.v s, Zt.vI x.err] ∧ Tail tag σ 6 s x.rest ∧ x.rest.length ≤ 140737488355328
theorem RdAt.keep {R : List Nat} {r A : Nat} {x : Rd} (h : RdAt tag σ r A x) (k : Step R ro tag σ tag' σ') (h1 : r ∉ R) (h2 : 6 ∉ R) : RdAt tag' σ' r A x := by
  obtain ⟨s, a, b, c⟩ := h
  exact ⟨s, a.keep k h1, b.keep k h2, c⟩
set_option maxRecDepth 100000 in
theorem newReader_ok {r : Nat} {a : Sl} {b : Str} {Q : Option Addr → AH → Prop} (h : SL.Read ro σ a (b.map vU)) (hs : SL.Sep ro σ) (hl : b.length ≤ 140737488355328) (hQ : ∀ A tag' σ', (∀ R, Step R ro tag σ tag' σ') → RdAt tag' σ' r A ⟨b, 0⟩ → Q (some ⟨A, 0, none⟩) σ') :
    c_wire_NewReader B ro a σ Q := by
  refine wire_NewReader_ok fun _ => ?_
  unfold f_wire_NewReader
  refine clone_ok (tag := tag) h hs (by simp; omega) (vU_st _) fun s tag1 σ1 st1 r1 => ?_
  refine nw_cells (tag := tag1) r (st1 []).sep fun A tag2 σ2 st2 r2 => ?_
  exact hQ A tag2 σ2 (fun R => (st1 R).trans (st2 R)) ⟨s, r2, Tail.of_row (r1.keep (st2 []) (by simp)), hl⟩
theorem left_ok {r A : Nat} {x : Rd} {Q : Int → AH → Prop} (h : RdAt tag σ r A x) (hs : SL.Sep ro σ) (hQ : Q (x.rest.length : Nat) σ) : c_wire_Reader_Left B ro (some ⟨A, 0, none⟩) σ Q := by
  refine wire_Reader_Left_ok fun _ => ?_
  unfold f_wire_Reader_Left
  obtain ⟨s, a, b, c⟩ := h
  obtain ⟨p, hp, hg⟩ := a.ptr hs (by simp)
  cases hp
  refine ⟨_, rfl, s, hg 0 _ rfl, ?_⟩
  rw [b.len]; exact hQ
theorem rerr_ok {r A : Nat} {x : Rd} {Q : Int → AH → Prop} (h : RdAt tag σ r A x) (hs : SL.Sep ro σ) (hQ : Q x.err σ) : c_wire_Reader_Err B ro (some ⟨A, 0, none⟩) σ Q := by
  refine wire_Reader_Err_ok fun _ => ?_
  unfold f_wire_Reader_Err
  obtain ⟨s, a, b, c⟩ := h
  obtain ⟨p, hp, hg⟩ := a.ptr hs (by simp)
  cases hp
  exact ⟨_, rfl, x.err, hg 1 _ rfl, hQ⟩
set_option maxRecDepth 100000 in
theorem rdNum_ok {r A : Nat} {x : Rd} {Q : Int → AH → Prop} (h : RdAt tag σ r A x) (h6 : r ≠ 6) (hs : SL.Sep ro σ) (hQ : ∀ σ', Step [r] ro tag σ tag σ' → RdAt tag σ' r A (rnum x).2 → Q ((rnum x).1 : Nat) σ') : c_wire_Reader_Num B ro (some ⟨A, 0, none⟩) σ Q := by
  refine wire_Reader_Num_ok fun _ => ?_
  unfold f_wire_Reader_Num
  obtain ⟨s, a, b, c⟩ := id h
  obtain ⟨p, hp, hg⟩ := a.ptr hs (by simp)
  cases hp
  refine ⟨_, rfl, x.err, hg 1 _ rfl, ?_⟩
  by_cases he : x.err = 0
  · rw [if_neg (by simpa using he)]
    refine ⟨_, rfl, s, hg 0 _ rfl, ?_⟩
    refine number_ok (b.read hs) c ?_
    have hrn : rnum x = ((num x.rest).1, ⟨x.rest.drop (num x.rest).2.1, (num x.rest).2.2⟩) := by unfold rnum; rw [if_neg (by simpa using he)]
    rw [hrn] at hQ
    have hle := num_le x.rest
    have hln := b.len
    have hcp := b.cap
    refine ⟨_, rfl, ?_⟩
    refine a.st (i := 1) hs rfl (by simp) rfl fun σ1 st1 r1 => ?_
    obtain ⟨p1, hp1, hg1⟩ := r1.ptr st1.sep (by simp)
    cases hp1
    refine ⟨_, rfl, s, hg1 0 _ rfl, ⟨trivial, by omega, by simp only [cutHi]; omega⟩, _, rfl, ?_⟩
    rw [Int.toNat_natCast]
    refine r1.st (i := 0) st1.sep rfl (by simp) rfl fun σ2 st2 r2 => ?_
    refine hQ σ2 (st1.trans st2) ⟨_, r2, ((b.drop hle.1).keep st1 (by simpa using fun h => h6 h.symm)).keep st2 (by simpa using fun h => h6 h.symm), by simp; omega⟩
  · rw [if_pos (by simpa using he)]
    rw [rnum_bad he] at hQ
    exact hQ σ (Step.refl hs) h
end Go.Proofs.YtfobjidchipdaaaGreatDoor.Wi

/- Frames and numbers: the walk. -/
namespace Go.Proofs.YtfobjidchipdaaaGreatDoor.Wi
open Go Go.Proofs.YtfobjidchipdaaaGreatDoor.SL Go.Proofs.YtfobjidchipdaaaGreatDoor.G Go.Proofs.YtfobjidchipdaaaGreatDoor.Pa Go.Proofs.YtfobjidchipdaaaGreatDoor.Zt
set_option linter.unusedSimpArgs false
set_option linter.unusedVariables false
set_option maxRecDepth 100000
variable {B : World} {ro σ σ' : AH} {tag tag' : Nat → Nat}
theorem frame_ok {q : Nat} {s : Sl} {p : Str} {Q : Sl → Int → AH → Prop} (hq : q ≠ 0) (hs : SL.Sep ro σ) (hln : s.len = p.length) (hx : ∀ tag' σ', Step [] ro tag σ tag' σ' → SL.Read ro σ' s (p.map vU))
    (hno : 65536 < p.length → Q ⟨none, 0, 0⟩ 14 σ) (hok : p.length ≤ 65536 → ∀ s' tag' σ', (∀ R, q ∈ R → Step R ro tag σ tag' σ') → Row tag' σ' q 5 s' ((frame p).map vU) → Q s' 0 σ') : c_wire_Frame B ro s σ Q := by
  refine wire_Frame_ok fun _ => ?_
  unfold f_wire_Frame
  rw [hln]
  by_cases c : 65536 < p.length
  · rw [if_pos (by omega)]; exact hno c
  · rw [if_neg (by omega)]
    refine four_ok (tag := tag) (q := q) (by omega) fun s1 tag1 σ1 st1 e1 r1 => ?_
    refine four_ok (tag := tag1) (q := 0) (by omega) fun s2 tag2 σ2 st2 e2 r2 => ?_
    have r1' := r1.keep (st2 []) (by simp)
    refine awp_appendN r2 (st2 []).sep (hx _ _ ((st1 []).trans (st2 []))) u30 ty5 rfl (by simp [storable]) (by simp [four_len]; omega) (by decide) fun s3 tag3 σ3 st3 r3 => ?_
    refine ⟨s3, rfl, ?_⟩
    rw [← List.map_append] at r3
    have st3' := fun R => st3 R (.inl e2)
    refine sum_ok (r3.read (st3' []).sep) (by simp [four_len]; omega) ?_
    refine four_ok (tag := tag3) (q := 0) (crc_lt _) fun s4 tag4 σ4 st4 e4 r4 => ?_
    refine awp_appendN ((r1'.keep (st3' []) (by simp)).keep (st4 []) (by simp)) (st4 []).sep (r4.read (st4 []).sep) u30 ty5 rfl (by simp [storable]) (by simp [four_len]) (by decide) fun s5 tag5 σ5 st5 r5 => ?_
    refine ⟨s5, rfl, ?_⟩
    rw [← List.map_append] at r5
    have st5' := fun R => st5 R (.inl e1)
    refine awp_appendN r5 (st5' []).sep (hx _ _ ((st1 []).trans ((st2 []).trans ((st3' []).trans ((st4 []).trans (st5' [])))))) u30 ty5 rfl (by simp [storable]) (by simp [four_len]; omega) (by decide) fun s6 tag6 σ6 st6 r6 => ?_
    refine ⟨s6, rfl, hok (by omega) s6 tag6 σ6 (fun R hR => (st1 R).trans ((st2 R).trans ((st3' R).trans ((st4 R).trans ((st5' R).trans (st6 R (.inr hR))))))) ?_⟩
    rw [← List.map_append, List.append_assoc] at r6
    exact r6
theorem putA_ok {q n : Nat} {acc0 : Str} {s0 : Sl} {Q : Sl → AH → Prop} (hs : SL.Sep ro σ) (hn : n < 4611686018427387904) (ha0 : acc0.length ≤ 1048576) (h0 : Row tag σ q 5 s0 (acc0.map vU)) (hQ : ∀ s tag' σ', Step [q] ro tag σ tag' σ' → Row tag' σ' q 5 s ((acc0 ++ vput n).map vU) → Q s σ') : c_wire_put B ro s0 (n : Int) σ Q := by
  refine wire_put_ok fun _ => ?_
  unfold f_wire_put
  suffices ∀ (m k : Nat) (acc : Str) (s : Sl) (tag1 : Nat → Nat) (σ1 : AH), k < 128 ^ (m + 1) → acc.length + m < 20 + acc0.length → acc ++ vput k = acc0 ++ vput n → Step [q] ro tag σ tag1 σ1 → Row tag1 σ1 q 5 s (acc.map vU) → lfpD (l6_wire_put B ro Q) (s, (k : Int)) σ1 from
    this 8 n acc0 s0 tag σ (by omega) (by omega) rfl (Step.refl hs) h0
  intro m
  induction m with
  | zero =>
    intro k acc s tag1 σ1 hk ha he st r1
    have hk : k < 128 := by simpa using hk
    refine lfpD.intro ?_
    unfold l6_wire_put
    simp only
    rw [if_neg (by omega)]
    unfold j1_wire_put
    refine nw_cells (tag := tag1) 0 st.sep fun x tag2 σ2 st2 r2 => ?_
    rw [u8wrap (by omega)] at r2
    refine awp_appendN (l2 := [vU (UInt8.ofNat k)]) (r1.keep (st2 []) (by simp)) (st2 []).sep (by rw [vU_of (by omega)]; exact r2.read (st2 []).sep) u30 ty5 rfl (by simp [storable]) (by simp; omega) (by decide) fun s' tag3 σ3 st3 r3 => ?_
    refine ⟨s', rfl, hQ s' tag3 σ3 (st.trans ((st2 _).trans (st3 _ (.inr (by simp))))) ?_⟩
    rw [← he]
    rw [vput, if_pos hk, List.map_append]
    exact r3
  | succ m ih =>
    intro k acc s tag1 σ1 hk ha he st r1
    refine lfpD.intro ?_
    unfold l6_wire_put
    simp only
    by_cases h128 : 128 ≤ k
    · rw [if_pos (by omega)]
      refine nw_cells (tag := tag1) 0 st.sep fun x tag2 σ2 st2 r2 => ?_
      rw [u8or] at r2
      refine awp_appendN (l2 := [vU (UInt8.ofNat (k % 128 + 128))]) (r1.keep (st2 []) (by simp)) (st2 []).sep (by rw [vU_of (by omega)]; exact r2.read (st2 []).sep) u30 ty5 rfl (by simp [storable]) (by simp; omega) (by decide) fun s' tag3 σ3 st3 r3 => ?_
      refine ⟨s', rfl, ?_⟩
      rw [show Int.fdiv (k : Int) (2 ^ (min (Int.toNat 7) 64)) = ((k / 128 : Nat) : Int) by
        rw [show (2 : Int) ^ (min (Int.toNat 7) 64) = 128 from by decide, Int.fdiv_eq_ediv_of_nonneg _ (by decide)]; omega]
      refine ih (k / 128) (acc ++ [UInt8.ofNat (k % 128 + 128)]) s' tag3 σ3 (by rw [Nat.pow_succ] at hk; exact Nat.div_lt_of_lt_mul (by rw [Nat.mul_comm]; exact hk)) (by simp; omega) ?_ (st.trans ((st2 _).trans (st3 _ (.inr (by simp))))) (by rw [List.map_append]; exact r3)
      rw [← he, List.append_assoc]
      conv => rhs; rw [vput, if_neg (by omega)]
      rfl
    · rw [if_neg (by omega)]
      unfold j1_wire_put
      refine nw_cells (tag := tag1) 0 st.sep fun x tag2 σ2 st2 r2 => ?_
      rw [u8wrap (by omega)] at r2
      refine awp_appendN (l2 := [vU (UInt8.ofNat k)]) (r1.keep (st2 []) (by simp)) (st2 []).sep (by rw [vU_of (by omega)]; exact r2.read (st2 []).sep) u30 ty5 rfl (by simp [storable]) (by simp; omega) (by decide) fun s' tag3 σ3 st3 r3 => ?_
      refine ⟨s', rfl, hQ s' tag3 σ3 (st.trans ((st2 _).trans (st3 _ (.inr (by simp))))) ?_⟩
      rw [← he]
      rw [vput, if_pos (by omega), List.map_append]
      exact r3
def nums (ns : List Int) : Str := ns.flatMap fun n => vput n.toNat
theorem vput_len9 {n : Nat} (h : n < 4611686018427387904) : (vput n).length ≤ 9 := (vput_len 8 n (by omega)).2
theorem nums_len : ∀ {ns : List Int}, ns.all rightN = true → (nums ns).length ≤ 9 * ns.length := by
  intro ns
  induction ns with
  | nil => intro _; simp [nums]
  | cons n ns ih =>
    intro h
    rw [List.all_cons, Bool.and_eq_true] at h
    have := ih h.2
    have h1 : rightN n = true := h.1
    unfold rightN at h1
    simp at h1
    have := vput_len9 (n := n.toNat) (by omega)
    unfold nums at *
    rw [List.flatMap_cons, List.length_append, List.length_cons]
    omega
theorem numbers_ok {q : Nat} {s : Sl} {ns : List Int} {Q : Sl → Int → AH → Prop} (hs : SL.Sep ro σ) (hln : s.len = ns.length) (hl : ns.length ≤ 100) (hx : ∀ tag' σ', Step [q] ro tag σ tag' σ' → SL.Read ro σ' s (ns.map Zt.vI))
    (hno : ns.all rightN = false → ∀ tag' σ', Step [q] ro tag σ tag' σ' → Q ⟨none, 0, 0⟩ 10 σ')
    (hok : ns.all rightN = true → ∀ s' tag' σ', Step [q] ro tag σ tag' σ' → Row tag' σ' q 5 s' ((nums ns).map vU) → Q s' 0 σ') : c_wire_Numbers B ro s σ Q := by
  refine wire_Numbers_ok fun _ => ?_
  unfold f_wire_Numbers
  suffices ∀ (m j : Nat) (s' : Sl) (tag1 : Nat → Nat) (σ1 : AH), j + m = ns.length → (ns.take j).all rightN = true → Step [q] ro tag σ tag1 σ1 → Row tag1 σ1 q 5 s' ((nums (ns.take j)).map vU) → lfpD (l3_wire_Numbers B ro s Q) (s', (j : Int)) σ1 from
    this _ 0 _ tag σ (Nat.zero_add _) rfl (Step.refl hs) (Row.nil q 5)
  intro m
  induction m with
  | zero =>
    intro j s' tag1 σ1 hj ha st r
    refine lfpD.intro ?_
    unfold l3_wire_Numbers
    simp only
    rw [if_neg (by omega)]
    unfold j1_wire_Numbers
    rw [List.take_of_length_le (by omega)] at ha r
    exact hok ha s' tag1 σ1 st r
  | succ m ih =>
    intro j s' tag1 σ1 hj ha st r
    have hjl : j < ns.length := by omega
    refine lfpD.intro ?_
    unfold l3_wire_Numbers
    simp only
    rw [if_pos (by omega)]
    have h := hx tag1 σ1 st
    obtain ⟨p, hp⟩ : ∃ p, s.a = some p := by
      cases ha : s.a with
      | none => have := h.2.1 ha; simp at this; subst this; simp at hjl
      | some p => exact ⟨p, rfl⟩
    refine ⟨p, hp, by omega, by omega, ns[j], ?_, ?_⟩
    · rw [Int.toNat_natCast, Nat.mul_one]
      refine h.2.2 p hp j _ ?_
      rw [List.getElem?_map, List.getElem?_eq_getElem hjl]; rfl
    · refine right_ok ?_
      by_cases c : rightN ns[j] = true
      · rw [if_neg (by simpa using c)]
        have c' := c
        unfold rightN at c'
        simp at c'
        have e : ns[j] = ((ns[j].toNat : Nat) : Int) := by omega
        have hlen := nums_len ha
        rw [List.length_take] at hlen
        rw [e]
        refine putA_ok st.sep (by omega) (by omega) r fun s2 tag2 σ2 st2 r2 => ?_
        rw [Pa.inc j (by omega)]
        have et : ns.take (j + 1) = ns.take j ++ [ns[j]] := by rw [List.take_add_one, List.getElem?_eq_getElem hjl]; rfl
        refine ih (j + 1) s2 tag2 σ2 (by omega) ?_ (st.trans st2) ?_
        · rw [et, List.all_append, ha]; simpa using c
        · rw [et]
          unfold nums at r2 ⊢
          rw [List.flatMap_append, List.flatMap_singleton]; exact r2
      · rw [if_pos (by simpa using c)]
        refine hno ?_ tag1 σ1 st
        rw [← Bool.not_eq_true, List.all_eq_true]
        exact fun h => c (h _ (List.getElem_mem hjl))
theorem read_drop {s : Sl} {l : Str} (h : SL.Read ro σ s (l.map vU)) (hc : s.len ≤ s.cap) {e : Nat} (he : e ≤ l.length) : SL.Read ro σ ⟨cutA s.a e s.cap 1, s.len - e, s.cap - e⟩ ((l.drop e).map vU) := by
  obtain ⟨h1, h2, h3⟩ := h
  rw [List.length_map] at h1
  refine ⟨by simp only; rw [h1]; simp, fun ha => ?_, fun p hp i w hw => ?_⟩
  · unfold cutA at ha
    simp only at ha
    have hn : s.a = none := by
      split at ha
      · exact ha
      · exact Option.map_eq_none_iff.1 ha
    have := h2 hn
    simp at this; subst this; simp
  · unfold cutA at hp
    simp only at hp
    have hi : i < (l.drop e).length := by
      rcases Nat.lt_or_ge i (l.drop e).length with h | h
      · exact h
      · rw [List.getElem?_eq_none (by simpa using h)] at hw; cases hw
    rw [List.length_drop] at hi
    split at hp
    · omega
    · obtain ⟨p', hp', rfl⟩ := Option.map_eq_some_iff.1 hp
      have hw' : (l.map vU)[e + i]? = some w := by
        rw [← hw, List.map_drop, List.getElem?_drop]
      have := h3 p' hp' (e + i) w hw'
      have e1 : (p'.add (e * 1)).add i = p'.add (e + i) := by
        obtain ⟨b, o, sp⟩ := p'
        cases e with
        | zero => rw [Nat.zero_mul, Nat.zero_add]; rfl
        | succ e => rw [Nat.mul_one, show (⟨b, o, sp⟩ : Addr).add (e + 1) = ⟨b, o + (e + 1), none⟩ from rfl, add_add, show (⟨b, o, sp⟩ : Addr).add (e + 1 + i) = ⟨b, o + (e + 1 + i), none⟩ from by rw [show e + 1 + i = (e + i) + 1 by omega]; rfl, Nat.add_assoc]
      rw [e1]; exact this
theorem read_take {s : Sl} {l : Str} (h : SL.Read ro σ s (l.map vU)) {n c : Nat} (hn : n ≤ l.length) : SL.Read ro σ ⟨s.a, n, c⟩ ((l.take n).map vU) := by
  obtain ⟨h1, h2, h3⟩ := h
  refine ⟨by simp; omega, fun ha => ?_, fun p hp i w hw => ?_⟩
  · have := h2 ha
    simp at this; subst this; simp
  · refine h3 p hp i w ?_
    rw [← hw, List.map_take, List.getElem?_take]
    have hi : i < n := by
      rcases Nat.lt_or_ge i ((l.take n).map vU).length with h | h
      · simp at h; omega
      · rw [List.getElem?_eq_none h] at hw; cases hw
    rw [if_pos hi]
theorem unframe_ok {s : Sl} {l : Str} {k : Nat} {Q : Sl → Int → Int → AH → Prop} (hs : SL.Sep ro σ) (hcap : s.len ≤ s.cap) (hk : k ≤ l.length) (hl : l.length ≤ 140737488355328) (hx : ∀ tag' σ', Step [] ro tag σ tag' σ' → SL.Read ro σ' s (l.map vU))
    (hno : (unframe (l.drop k)).2.2 ≠ 0 → ∀ tag' σ', (∀ R, Step R ro tag σ tag' σ') → Q ⟨none, 0, 0⟩ 0 (unframe (l.drop k)).2.2 σ')
    (hok : (unframe (l.drop k)).2.2 = 0 → ∀ s' tag' σ', (∀ R, Step R ro tag σ tag' σ') → Row tag' σ' 6 5 s' ((unframe (l.drop k)).1.map vU) → Q s' ((k + (unframe (l.drop k)).2.1 : Nat) : Int) 0 σ') : c_wire_Unframe B ro s (k : Int) σ Q := by
  refine wire_Unframe_ok fun _ => ?_
  unfold f_wire_Unframe
  have h0 := hx tag σ (Step.refl hs)
  have hln : s.len = l.length := by rw [h0.1, List.length_map]
  have hdl : (l.drop k).length = l.length - k := List.length_drop ..
  rw [if_neg (by omega), w64_eq (n := (s.len : Int) - (k : Int)) (by omega) (by omega)]
  unfold unframe at hno hok
  by_cases c1 : (l.drop k).length < 8
  · rw [if_pos (by omega)]
    rw [if_pos c1] at hno
    exact hno (by decide) tag σ fun R => Step.refl hs
  rw [if_neg (by omega)]
  rw [if_neg c1] at hno hok
  refine ⟨⟨trivial, by omega, by simp only [cutHi]; omega⟩, ?_⟩
  rw [Int.toNat_natCast]
  refine value_ok (read_drop h0 hcap hk) (by omega) ?_
  have hv4 : value (l.drop k) < 4294967296 := by
    match l.drop k with
    | a :: b :: c :: d :: r => unfold value; have := u8_lt a; have := u8_lt b; have := u8_lt c; have := u8_lt d; simp only; omega
    | [] => decide
    | [a] => show (0 : Nat) < _; decide
    | [a, b] => show (0 : Nat) < _; decide
    | [a, b, c] => show (0 : Nat) < _; decide
  obtain ⟨n, hn⟩ : ∃ n, value (l.drop k) = n := ⟨_, rfl⟩
  rw [hn] at hno hok hv4 ⊢
  by_cases c2 : 65536 < n
  · rw [if_pos (by omega)]
    rw [if_pos c2] at hno
    exact hno (by decide) tag σ fun R => Step.refl hs
  rw [if_neg (by omega)]
  rw [if_neg c2] at hno hok
  rw [w64_eq (n := (s.len : Int) - (k : Int) - 8) (by omega) (by omega)]
  by_cases c3 : (l.drop k).length - 8 < n
  · rw [if_pos (by omega)]
    rw [if_pos c3] at hno
    exact hno (by decide) tag σ fun R => Step.refl hs
  rw [if_neg (by omega)]
  rw [if_neg c3] at hno hok
  rw [w64_eq (n := (k : Int) + 8) (by omega) (by omega), w64_eq (n := (k : Int) + 8 + (n : Int)) (by omega) (by omega), w64_eq (n := (k : Int) + 4) (by omega) (by omega)]
  refine ⟨⟨⟨by omega, by omega⟩, by omega, by simp only [cutHi]; omega⟩, ?_⟩
  rw [show Int.toNat ((k : Int) + 8) = k + 8 by omega, show Int.toNat ((k : Int) + 8 + (n : Int)) = k + 8 + n by omega, show Int.toNat ((k : Int) + 4) = k + 4 by omega]
  have ed8 : (l.drop k).drop 8 = l.drop (k + 8) := by rw [List.drop_drop]
  have ed4 : (l.drop k).drop 4 = l.drop (k + 4) := by rw [List.drop_drop]
  rw [ed8, ed4] at hno hok
  have hr8 := read_take (read_drop h0 hcap (e := k + 8) (by omega)) (n := n) (c := s.cap - (k + 8)) (by rw [List.length_drop]; omega)
  simp only at hr8
  rw [show k + 8 + n - (k + 8) = n by omega]
  have hpl : ((l.drop (k + 8)).take n).length = n := by rw [List.length_take, List.length_drop]; omega
  obtain ⟨p, hp⟩ : ∃ p, (l.drop (k + 8)).take n = p := ⟨_, rfl⟩
  rw [hp] at hno hok hr8 hpl
  refine clone_ok (tag := tag) hr8 hs (by rw [List.length_map]; omega) (by simp [storable]) fun s1 tag1 σ1 st1 r1 => ?_
  refine ⟨⟨trivial, by omega, by simp only [cutHi]; omega⟩, ?_⟩
  refine four_ok (tag := tag1) (q := 0) (by omega) fun s2 tag2 σ2 st2 e2 r2 => ?_
  have r1' := r1.keep (st2 []) (by simp)
  refine awp_appendN r2 (st2 []).sep (r1'.read (st2 []).sep) u30 ty5 rfl (by simp [storable]) (by simp [four_len]; omega) (by decide) fun s3 tag3 σ3 st3 r3 => ?_
  refine ⟨s3, rfl, ?_⟩
  rw [← List.map_append] at r3
  have st3' := fun R => st3 R (.inl e2)
  have sta : ∀ R, Step R ro tag σ tag3 σ3 := fun R => (st1 R).trans ((st2 R).trans (st3' R))
  refine sum_ok (r3.read (st3' []).sep) (by simp [four_len]; omega) ?_
  have h3 := hx tag3 σ3 (sta [])
  refine value_ok (read_drop h3 hcap (e := k + 4) (by omega)) (by rw [List.length_drop]; omega) ?_
  by_cases c4 : crc (four n ++ p) = value (l.drop (k + 4))
  · rw [if_neg (by rw [c4]; simp)]
    rw [if_pos c4] at hok
    rw [show ((k : Int) + 8 + (n : Int)) = ((k + (8 + n) : Nat) : Int) by omega]
    exact hok rfl s1 tag3 σ3 sta (r1'.keep (st3' []) (by simp))
  · rw [if_pos (by omega)]
    rw [if_neg c4] at hno
    exact hno (by decide) tag3 σ3 sta
end Go.Proofs.YtfobjidchipdaaaGreatDoor.Wi

/- Numerals, digits read, texts trimmed: the library under snapshots and logs; structs of numbers compared. -/
namespace Go.Proofs.YtfobjidchipdaaaGreatDoor.Sn
open Go Go.Proofs.YtfobjidchipdaaaGreatDoor.SL Go.Proofs.YtfobjidchipdaaaGreatDoor.G Go.Proofs.YtfobjidchipdaaaGreatDoor.Pa
set_option linter.unusedSimpArgs false
set_option linter.unusedVariables false
set_option maxRecDepth 100000
variable {B : World} {ro σ σ' : AH} {tag tag' : Nat → Nat}
theorem repeatL_rep (c : UInt8) (k : Nat) : Lib.repeatL [c] k = List.replicate k c := by
  induction k with
  | zero => rfl
  | succ k ih => rw [Lib.repeatL, ih]; rfl
theorem itoa_ok {n : Nat} {Q : ByteArray → AH → Prop} (g : Glob ro) (hn : n < 9223372036854775808) (hQ : Q (S (Lib.decDigits n)) σ) : c_strconv_Itoa B ro (n : Int) σ Q := by
  refine ACalls.of_calls fun w hw hsep => ?_
  refine (Tryz.strconv_Itoa (n : Int) (by omega) (by omega) w (g.tab w (sees_ro hw))).mono ?_
  rintro e w' ⟨he, k, os, rfl⟩
  have hb : Go.RowKit.Below w.heap.size w (Go.Sort.grow (w.drewN k) os) := ⟨rfl, rfl, rfl, by simp [Go.Sort.grow, World.drewN], fun b hb => by
    simp only [Go.Sort.grow, World.drewN]
    rw [Array.getElem?_append_left hb]⟩
  refine ⟨_, fun _ => none, he, hb, News.none _ _, S (Lib.decDigits n), ?_, ?_⟩
  · rw [Lib.itoa_nonneg]; rfl
  · rw [join_none_right]; exact hQ
theorem repeat_ok {k : Nat} {Q : ByteArray → AH → Prop} (hk : k ≤ 100) (hQ : Q (S (List.replicate k 48)) σ) : c_strings_Repeat B ro (⟨#[48]⟩ : ByteArray) (k : Int) σ Q := by
  refine ACalls.of_calls fun w hw hsep => ?_
  refine (Tryz.strings_Repeat (⟨#[48]⟩ : ByteArray) k w (by omega) (by show 1 * k ≤ _; omega)).mono ?_
  rintro e w' ⟨he, hb⟩
  refine ⟨_, fun _ => none, he, hb, News.none _ _, S (List.replicate k 48), ?_, ?_⟩
  · rw [show (⟨#[48]⟩ : ByteArray).data.toList = [48] from rfl, repeatL_rep]; rfl
  · rw [join_none_right]; exact hQ
theorem atoi_ok {l : Str} {n : Int} {Q : Int → Value → AH → Prop} (hl : l.length ≤ 18) (h : Lib.atoi l = some n) (hQ : Q n .nilIface σ) : c_strconv_Atoi B ro (S l) σ Q := by
  refine ACalls.of_calls fun w hw hsep => ?_
  refine (Tryz.strconv_Atoi (S l) n hl h w).mono ?_
  rintro e w' ⟨he, t, rfl⟩
  refine ⟨_, fun _ => none, he, ?_, News.none _ _, n, .nilIface, rfl, ?_⟩
  · exact Lib.bytesWorld_below _ _ _
  · rw [join_none_right]; exact hQ
theorem trim_ok {l cs : Str} {Q : ByteArray → AH → Prop} (hl : l.length ≤ 9223372036854775807) (hc : cs.length < 4294967281) (ha : ∀ c ∈ cs, c.toNat < 128) (hQ : Q (S (Lib.trimS l cs)) σ) : c_strings_Trim B ro (S l) (S cs) σ Q := by
  refine ACalls.of_calls fun w hw hsep => ?_
  refine (Any.strings_Trim_laid Tryz.lays160 (by kernel_rfl) (S l) (S cs) w (by rw [← L_len, L_S]; exact hl) (by rw [← L_len, L_S]; exact hc) (fun j b hb => ha b (List.mem_of_getElem? hb))).mono ?_
  rintro e w' ⟨he, hb⟩
  exact ⟨_, fun _ => none, he, hb, News.none _ _, _, rfl, by rw [join_none_right]; exact hQ⟩
theorem aread_bind {α β : Type} {P : Program} (s : Sem α) (f : α → Sem β) {τ : AH} {a : α} (h : aread P ro s τ = some a) : aread P ro (Sem.bind s f) τ = aread P ro (f a) τ := by
  induction s with
  | pure x => cases h; rfl
  | load m x k ih =>
    simp only [aread] at h
    simp only [Sem.bind, aread]
    split at h
    · exact ih _ h
    · cases h
  | program k ih => exact ih _ h
  | mark m k ih => exact ih h
  | _ => cases h
theorem eqint {k : Nat} {a b : Int} {τ : AH} : aread Tryz.prog ro (Op.equalIn (k + 1) 3 (.int .i64 a) (.int .i64 b)) τ = some (decide (a = b)) := by
  unfold Op.equalIn
  show aread Tryz.prog ro (Sem.bind (underlying 3) _) _ = _
  rw [underlying_bind _ _ (by kernel_rfl : Tryz.prog.underlying 3 = some (.int .i64))]
  show some (a == b) = _
  by_cases e : a = b
  · subst e; simp
  · simp [e]
theorem g87 : Tryz.prog.eqGuardType Tryz.prog.depth 87 = false := by kernel_rfl
theorem st87 : Tryz.prog.stoodInHeld 87 = false := by kernel_rfl
theorem u87 : ∃ n1 n2 : Field, Tryz.prog.underlying 87 = some (.struct #[n1, n2]) ∧ n1.type = 3 ∧ n1.offset = 0 ∧ n2.type = 3 ∧ n2.offset = 1 ∧ n1.name ≠ "_" ∧ n2.name ≠ "_" := ⟨_, _, Tryz.underlying87, rfl, rfl, rfl, rfl, by decide, by decide⟩
theorem partI {cs : Array Value} {i : Nat} {n : Int} {τ : AH} (h : cs[i]? = some (.int .i64 n)) : aread Tryz.prog ro (part 3 cs i) τ = some (.int .i64 n) := by
  unfold part
  show aread Tryz.prog ro (Sem.bind (isAgg 3) _) τ = _
  rw [aread_isAgg (by kernel_rfl : Tryz.prog.underlying 3 = some (.int .i64))]
  simp only [h]
  rfl
theorem eq87 {k : Nat} {a b c d : Int} {τ : AH} : aread Tryz.prog ro (Op.equalIn (k + 2) 87 (.agg #[.int .i64 a, .int .i64 b]) (.agg #[.int .i64 c, .int .i64 d])) τ = some (decide (a = c ∧ b = d)) := by
  obtain ⟨n1, n2, hu, h1, h2, h3, h4, h5, h6⟩ := u87
  unfold Op.equalIn
  show aread Tryz.prog ro (Sem.bind (underlying 87) _) _ = _
  rw [underlying_bind _ _ hu]
  show aread Tryz.prog ro (if Tryz.prog.stoodInHeld 87 = true then _ else _) τ = _
  rw [st87, if_neg (by simp)]
  show aread Tryz.prog ro (Sem.bind (forIn #[n1, n2] _ _) _) τ = _
  have p : ∀ {β : Type} (cs : Array Value) (i : Nat) (n : Int) (f : Value → Sem β), cs[i]? = some (.int .i64 n) → aread Tryz.prog ro (part 3 cs i >>= f) τ = aread Tryz.prog ro (f (.int .i64 n)) τ := fun cs i n f h => aread_bind _ _ (partI h)
  have q : ∀ {β : Type} (x y : Int) (f : Bool → Sem β), aread Tryz.prog ro (Op.equalIn (k + 1) 3 (.int .i64 x) (.int .i64 y) >>= f) τ = aread Tryz.prog ro (f (decide (x = y))) τ := fun x y f => aread_bind _ _ eqint
  rw [← Array.forIn_toList]
  by_cases e1 : a = c
  · by_cases e2 : b = d
    · rw [show decide (a = c ∧ b = d) = true by simp [e1, e2]]
      refine (aread_bind _ _ (a := ((none, ()) : Option Bool × Unit)) ?_).trans rfl
      rw [List.forIn_cons]
      refine (aread_bind _ _ (a := .yield ((none, ()) : Option Bool × Unit)) ?_).trans ?_
      · rw [if_pos h5, h1, h2, p _ _ a _ rfl, p _ _ c _ rfl, q]; simp only [e1]; simp; rfl
      · show aread Tryz.prog ro (forIn [n2] _ _) τ = _
        rw [List.forIn_cons]
        refine (aread_bind _ _ (a := .yield ((none, ()) : Option Bool × Unit)) ?_).trans ?_
        · rw [if_pos h6, h3, h4, p _ _ b _ rfl, p _ _ d _ rfl, q]; simp only [e2]; simp; rfl
        · rfl
    · rw [show decide (a = c ∧ b = d) = false by simp [e1, e2]]
      refine (aread_bind _ _ (a := ((some false, ()) : Option Bool × Unit)) ?_).trans rfl
      rw [List.forIn_cons]
      refine (aread_bind _ _ (a := .yield ((none, ()) : Option Bool × Unit)) ?_).trans ?_
      · rw [if_pos h5, h1, h2, p _ _ a _ rfl, p _ _ c _ rfl, q]; simp only [e1]; simp; rfl
      · show aread Tryz.prog ro (forIn [n2] _ _) τ = _
        rw [List.forIn_cons]
        refine (aread_bind _ _ (a := .done ((some false, ()) : Option Bool × Unit)) ?_).trans ?_
        · rw [if_pos h6, h3, h4, p _ _ b _ rfl, p _ _ d _ rfl, q]; simp only [e2]; simp; rfl
        · rfl
  · rw [show decide (a = c ∧ b = d) = false by simp [e1]]
    refine (aread_bind _ _ (a := ((some false, ()) : Option Bool × Unit)) ?_).trans rfl
    rw [List.forIn_cons]
    refine (aread_bind _ _ (a := .done ((some false, ()) : Option Bool × Unit)) ?_).trans ?_
    · rw [if_pos h5, h1, h2, p _ _ a _ rfl, p _ _ c _ rfl, q]; simp only [e1]; simp; rfl
    · rfl
theorem ne87 {a b c d : Int} {x y : Operand} {K : Value → AH → Prop} (h : K (.bool (!decide (a = c ∧ b = d))) σ) : awp Tryz.prog ro (do eqGuard .neq 87 x y (.agg #[.int .i64 a, .int .i64 b]) (.agg #[.int .i64 c, .int .i64 d]); Go.binOp .neq 87 (.agg #[.int .i64 a, .int .i64 b]) (.agg #[.int .i64 c, .int .i64 d])) K σ := by
  refine awp_at_aread _ ?_ h
  refine (aread_bind _ _ (a := ()) ?_).trans ?_
  · show aread Tryz.prog ro (if (!(Tryz.prog.eqGuardType Tryz.prog.depth 87)) = true then _ else _) σ = _
    rw [g87, if_pos (by simp)]
    rfl
  · show aread Tryz.prog ro (Sem.bind (Op.equal 87 _ _) fun b => Sem.pure (Value.bool !b)) σ = _
    rw [equal_unfold, aread_bind _ _ eq87]; rfl
theorem nil_eq {v : Value} {K : Value → AH → Prop} (h : K (.bool true) σ) : awp Tryz.prog ro (do eqGuard .eql 152 (.tmp 23) (.const v) .nilIface .nilIface; Go.binOp .eql 152 .nilIface .nilIface) K σ := by
  refine awp_at_aread _ ?_ h
  refine (aread_bind _ _ (a := ()) rfl).trans ?_
  show aread Tryz.prog ro (Sem.bind (Op.equal 152 _ _) fun b => Sem.pure (Value.bool b)) σ = _
  rw [equal_unfold]
  refine (aread_bind _ _ (a := true) ?_).trans rfl
  unfold Op.equalIn
  show aread Tryz.prog ro (Sem.bind (underlying 152) _) _ = _
  rw [underlying_bind _ _ Tryz.underlying152]
  rfl
end Go.Proofs.YtfobjidchipdaaaGreatDoor.Sn
