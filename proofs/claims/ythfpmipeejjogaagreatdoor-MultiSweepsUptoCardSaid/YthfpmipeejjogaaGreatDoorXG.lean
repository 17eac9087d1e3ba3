/- PaF -/
import Derived.Test.YthfpmipeejjogaaGreatDoorXF
/- Paths, the walk: ten digits behind a path. -/
namespace Go.Proofs.YthfpmipeejjogaaGreatDoor.Pa
open Go Go.Proofs.YthfpmipeejjogaaGreatDoor.SL Go.Proofs.YthfpmipeejjogaaGreatDoor.G Go.RowKit
set_option linter.unusedSimpArgs false
set_option linter.unusedVariables false
variable {B : World} {ro σ σ' : AH} {tag tag' : Nat → Nat}

def tens : Nat → Nat → Str
  | 0, _ => []
  | k + 1, n => tens k (n / 10) ++ [UInt8.ofNat (48 + n % 10)]
theorem tens_zero (k : Nat) : tens k 0 = List.replicate k 48 := by
  induction k with
  | zero => rfl
  | succ k ih => rw [tens, Nat.zero_div, ih, List.replicate_succ']; rfl
theorem tens_dec : ∀ (k n : Nat), n < 10 ^ (k + 1) → (Lib.decDigits n).length ≤ k + 1 ∧ List.replicate (k + 1 - (Lib.decDigits n).length) 48 ++ Lib.decDigits n = tens (k + 1) n := by
  intro k
  induction k with
  | zero =>
    intro n h
    have h : n < 10 := by simpa using h
    rw [Lib.decDigits, dif_pos h]
    refine ⟨by simp, ?_⟩
    simp [tens, Nat.mod_eq_of_lt h]
  | succ k ih =>
    intro n h
    by_cases h10 : n < 10
    · rw [Lib.decDigits, dif_pos h10]
      refine ⟨by simp, ?_⟩
      rw [tens, Nat.div_eq_of_lt h10, tens_zero, Nat.mod_eq_of_lt h10]; simp
    · rw [Lib.decDigits, dif_neg h10]
      obtain ⟨h1, h2⟩ := ih (n / 10) (by rw [Nat.div_lt_iff_lt_mul (by omega)]; rw [Nat.pow_succ] at h; exact h)
      refine ⟨by simp; omega, ?_⟩
      rw [tens, ← h2]
      simp only [List.length_append, List.length_cons, List.length_nil, ← List.append_assoc]
      rw [show k + 1 + 1 - ((Lib.decDigits (n / 10)).length + (0 + 1)) = k + 1 - (Lib.decDigits (n / 10)).length by omega]
theorem tens_len (k n : Nat) : (tens k n).length = k := by
  induction k generalizing n with
  | zero => rfl
  | succ k ih => rw [tens, List.length_append, ih]; rfl
theorem repeatL_rep (c : UInt8) (k : Nat) : Lib.repeatL [c] k = List.replicate k c := by
  induction k with
  | zero => rfl
  | succ k ih => rw [Lib.repeatL, ih]; rfl

theorem itoa_ok {n : Nat} {Q : ByteArray → AH → Prop} (g : Glob ro) (hn : n < 9223372036854775808) (hQ : Q (S (Lib.decDigits n)) σ) : c_strconv_Itoa B ro (n : Int) σ Q := by
  refine ACalls.of_calls fun w hw hsep => ?_
  refine (Tryz.strconv_Itoa (n : Int) (by omega) (by omega) w (g.tab w (sees_ro hw))).mono ?_
  rintro e w' ⟨he, k, os, rfl⟩
  have hb : Below w.heap.size w (Go.Sort.grow (w.drewN k) os) := ⟨rfl, rfl, rfl, by simp [Go.Sort.grow, World.drewN], fun b hb => by
    simp only [Go.Sort.grow, World.drewN]
    rw [Array.getElem?_append_left hb]⟩
  refine ⟨_, fun _ => none, he, hb, News.none _ _, S (Lib.decDigits n), ?_, ?_⟩
  · rw [Lib.itoa_nonneg]; rfl
  · rw [join_none_right]; exact hQ
theorem repeat_ok {k : Nat} {Q : ByteArray → AH → Prop} (hk : k ≤ 100) (hQ : Q (S (List.replicate k 48)) σ) : c_strings_Repeat B ro (⟨#[48]⟩ : ByteArray) (k : Int) σ Q := by
  refine ACalls.of_calls fun w hw hsep => ?_
  refine (Tryz.strings_Repeat (⟨#[48]⟩ : ByteArray) k w (by omega) (by show 1 * k ≤ _; omega)).mono ?_
  rintro e w' ⟨he, hb⟩
  refine ⟨_, fun _ => none, he, hb, News.none _ _, S (List.replicate k 48), ?_, ?_⟩
  · rw [show (⟨#[48]⟩ : ByteArray).data.toList = [48] from rfl, repeatL_rep]; rfl
  · rw [join_none_right]; exact hQ
def digits (n : Int) : Str := tens 10 n.toNat
def suffix (l : Str) (n : Int) : Option Str :=
  match parts l with
  | some ps => if ps = [] ∨ n < 0 ∨ 9999999999 < n then none else if (parts (l ++ digits n)).isSome then some (l ++ digits n) else none
  | none => none
theorem suffix_ok {p : ByteArray} {n : Int} {Q : ByteArray → Int → AH → Prop} (g : Glob ro) (hnone : suffix (L p) n = none → Q (⟨#[]⟩ : ByteArray) 20 σ) (hsome : ∀ u, suffix (L p) n = some u → Q (S u) 0 σ) : c_path_Suffix B ro p n σ Q := by
  refine path_Suffix_ok fun hs => ?_
  unfold f_path_Suffix
  by_cases h1 : (p = ⟨#[47]⟩ ∨ n < 0) ∨ 9999999999 < n
  · rw [if_pos h1]
    unfold j1_path_Suffix
    rw [if_pos rfl]
    refine hnone ?_
    unfold suffix
    cases h : parts (L p) with
    | none => rfl
    | some ps =>
      obtain ⟨hl, hg⟩ := parts_iff.1 h
      refine if_pos ?_
      rcases h1 with (h1 | h1) | h1
      · exact .inl ((slash_iff hg).1 (by rw [← hl, h1]; rfl))
      · exact .inr (.inl h1)
      · exact .inr (.inr h1)
  · rw [if_neg h1]
    have hp1 : p ≠ ⟨#[47]⟩ := fun h => h1 (.inl (.inl h))
    obtain ⟨m, rfl⟩ : ∃ m : Nat, n = m := ⟨n.toNat, by omega⟩
    refine check_ok g ?_
    unfold j1_path_Suffix
    by_cases h2 : chk (L p) = 0
    · rw [if_neg (by simpa using h2)]
      obtain ⟨ps, hps⟩ := chk_zero.1 h2
      obtain ⟨hl, hg⟩ := parts_iff.1 hps
      have hn : ps ≠ [] := fun e => hp1 (L_inj (by rw [hl, e]; rfl))
      refine itoa_ok g (by omega) ?_
      obtain ⟨hd1, hd2⟩ := tens_dec 9 m (by show m < 10000000000; omega)
      have e1 : IntKind.i64.wrap (10 - ((S (Lib.decDigits m)).size : Int)) = ((9 + 1 - (Lib.decDigits m).length : Nat) : Int) := by
        rw [S_size, SL.w64_eq (by omega) (by omega)]; omega
      rw [e1]
      refine repeat_ok (by omega) ?_
      have hsz : p.size = (mk ps).length := by rw [← L_len, hl]
      have h128 := hg.len
      rw [S_append, hd2]
      refine ⟨by simp only [S_size, List.length_replicate]; omega, by rw [S_size, tens_len]; omega, ?_⟩
      have e2 : p ++ S (tens (9 + 1) m) = S (L p ++ digits m) := by
        conv => lhs; rw [← S_L p]
        rw [S_append]; rfl
      rw [e2]
      refine check_ok g ?_
      rw [L_S]
      have hsuf : suffix (L p) (m : Int) = if (parts (L p ++ digits m)).isSome then some (L p ++ digits m) else none := by
        unfold suffix; rw [hps]; simp only; rw [if_neg fun h => h.elim hn (by omega)]
      by_cases h3 : chk (L p ++ digits m) = 0
      · rw [if_neg (by simpa using h3)]
        obtain ⟨qs, hqs⟩ := chk_zero.1 h3
        refine hsome _ ?_
        rw [hsuf, hqs]; rfl
      · rw [if_pos (by simpa using h3)]
        have e3 : parts (L p ++ digits m) = none := by
          cases h : parts (L p ++ digits m) with
          | none => rfl
          | some qs => exact absurd (chk_zero.2 ⟨qs, h⟩) h3
        have : chk (L p ++ digits m) = 20 := by unfold chk; rw [e3]; rfl
        rw [this]
        refine hnone ?_
        rw [hsuf, e3]; rfl
    · rw [if_pos (by simpa using h2)]
      refine hnone ?_
      unfold suffix
      cases h : parts (L p) with
      | none => rfl
      | some ps => exact absurd (chk_zero.2 ⟨ps, h⟩) h2
end Go.Proofs.YthfpmipeejjogaaGreatDoor.Pa
