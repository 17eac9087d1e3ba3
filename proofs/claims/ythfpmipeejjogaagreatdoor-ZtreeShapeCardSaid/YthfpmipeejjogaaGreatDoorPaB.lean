/- Paths, the walk: what package path's functions answer, for every string. -/
import Derived.Test.YthfpmipeejjogaaGreatDoorGLib
import Derived.Test.YthfpmipeejjogaaGreatDoorGPath
import Derived.Test.YthfpmipeejjogaaGreatDoorGR2
import Derived.Test.YthfpmipeejjogaaGreatDoorPaA
import Derived.Test.YthfpmipeejjogaaGreatDoorShelf
import Derived.Laws.RangeString
namespace Go.Proofs.YthfpmipeejjogaaGreatDoor.Pa
open Go Go.Proofs.YthfpmipeejjogaaGreatDoor.SL Go.Proofs.YthfpmipeejjogaaGreatDoor.G
set_option linter.unusedSimpArgs false
set_option linter.unusedVariables false
variable {B : World} {ro σ σ' : AH} {tag tag' : Nat → Nat}

theorem inc (j : Nat) (h : j < 4611686018427387904) : IntKind.i64.wrap ((j : Int) + 1) = ((j + 1 : Nat) : Int) := by rw [SL.w64_eq (by omega) (by omega)]; rfl

theorem hasPrefix_ok {a p : ByteArray} {Q : Bool → AH → Prop} (hQ : Q ((L p).isPrefixOf (L a)) σ) : c_strings_HasPrefix B ro a p σ Q := by
  refine strings_HasPrefix_ok fun _ => ?_
  unfold f_strings_HasPrefix
  refine stringslite_HasPrefix_ok fun _ => ?_
  unfold f_stringslite_HasPrefix j1_stringslite_HasPrefix
  by_cases h : p.size ≤ a.size
  · rw [if_pos (by omega)]
    refine ⟨⟨⟨by omega, by omega⟩, trivial⟩, ?_⟩
    have e : decide (a.extract 0 (Int.toNat (p.size : Int)) = p) = (L p).isPrefixOf (L a) := by
      rw [Int.toNat_natCast, Bool.eq_iff_iff, decide_eq_true_iff, List.isPrefixOf_iff_prefix, List.prefix_iff_eq_take]
      constructor
      · intro h'; conv => lhs; rw [← h']
        rw [← S_L a, S_extract]; simp [L_len]
      · intro h'
        apply L_inj
        rw [← S_L a, S_extract]; simp only [L_S, List.drop_zero]
        rw [L_len] at h'; exact h'.symm
    rw [e]; exact hQ
  · rw [if_neg (by omega)]
    have e : (L p).isPrefixOf (L a) = false := by
      rw [Bool.eq_false_iff]
      intro h'
      have := (List.isPrefixOf_iff_prefix.1 h').length_le
      rw [L_len, L_len] at this; exact h this
    rw [e] at hQ; exact hQ

theorem last_ok {s : ByteArray} {Q : Int → AH → Prop} (hs : s.size < 4611686018427387904) (hQ : Q (li (L s) s.size) σ) : c_strings_LastIndexByte B ro s 47 σ Q := by
  refine strings_LastIndexByte_ok fun _ => ?_
  unfold f_strings_LastIndexByte
  refine bytealg_LastIndexByteString_ok fun _ => ?_
  unfold f_bytealg_LastIndexByteString
  rw [SL.w64_eq (by omega) (by omega)]
  suffices ∀ k, k ≤ s.size → Q (li (L s) k) σ → lfpD (l2_bytealg_LastIndexByteString B ro s 47 Q) ((k : Int) - 1) σ from this s.size (Nat.le_refl _) hQ
  intro k
  induction k with
  | zero =>
    intro _ h
    refine lfpD.intro ?_
    unfold l2_bytealg_LastIndexByteString
    rw [if_neg (by omega)]
    exact h
  | succ k ih =>
    intro hk h
    refine lfpD.intro ?_
    unfold l2_bytealg_LastIndexByteString
    rw [if_pos (by omega)]
    have e : ((k + 1 : Nat) : Int) - 1 = k := by omega
    rw [e]
    have hkl : k < (L s).length := by rw [L_len]; omega
    have hg : s[k]? = some ((L s)[k]) := by
      conv => lhs; rw [← S_L s]
      rw [S_get, List.getElem?_eq_getElem hkl]
    refine ⟨(L s)[k], by omega, by rw [Int.toNat_natCast]; exact hg, ?_⟩
    unfold li at h
    rw [List.getElem?_eq_getElem hkl] at h
    by_cases c : (L s)[k] = 47
    · rw [if_pos (by rw [c])] at h
      rw [if_pos (by rw [c]; rfl)]
      exact h
    · rw [if_neg (by simpa using c)] at h
      rw [if_neg, SL.w64_eq (by omega) (by omega)]
      · exact ih (by omega) h
      · intro h'
        refine c (UInt8.toNat_inj.1 ?_)
        have : ((L s)[k].toNat : Int) = 47 := h'
        show (L s)[k].toNat = 47
        omega

theorem awp_range_str {P : Program} {t : TypeId} {s : ByteArray} {K : Value → AH → Prop} (ht : P.underlying t = some .string) (h : ∀ b, ro b = none → σ b = none → K (.pointer (some ⟨b, 0, none⟩)) (upd σ b (.stringIter s 0))) : awp P ro (Instr.range t (.string s)) K σ := by
  unfold Instr.range
  simp only [bind_def]
  rw [awp_underlying ht]
  exact h
theorem awp_next_str {P : Program} {t : TypeId} {s : ByteArray} {b pos : Nat} {K : Value → AH → Prop} (hro : ro b = none) (hb : σ b = some (.stringIter s pos)) (h1 : s.size ≤ pos → K (.tuple #[.bool false]) σ)
    (h2 : pos < s.size → K (.tuple #[.bool true, .int .i64 pos, .int .i32 (Utf8.decode s pos).1]) (upd σ b (.stringIter s (pos + (Utf8.decode s pos).2)))) : awp P ro (Instr.next (.pointer (some ⟨b, 0, none⟩)) true t) K σ := by
  unfold Instr.next
  refine ⟨.stringIter s pos, by unfold rd; rw [hro]; exact hb, rfl, ?_⟩
  show awp P ro (if pos < s.size then _ else _) K σ
  by_cases h : pos < s.size
  · rw [if_pos h]
    exact ⟨_, hb, rfl, h2 h⟩
  · rw [if_neg h]
    exact h1 (by omega)
theorem decode_big (s : ByteArray) (pos : Nat) (h : ¬ (s.get! pos).toNat < 128) : 128 ≤ (Utf8.decode s pos).1 := by
  unfold Utf8.decode
  simp only [Nat.add_zero]
  rw [if_neg h]
  repeat' split
  all_goals simp_all [Utf8.runeError]
  all_goals omega

set_option maxRecDepth 100000 in
theorem name_ok {s : ByteArray} {Q : Bool → AH → Prop} (hQ : Q (nameOk (L s)) σ) : c_path_Name B ro s σ Q := by
  refine ACalls.quiet (R := fun v => v = .bool (nameOk (L s))) ?_ (fun v hv => ⟨_, hv, hQ⟩)
  have : c_path_Name B ro s (fun _ => none) fun r _ => r = nameOk (L s) := by
    refine path_Name_ok fun hs => ?_
    unfold f_path_Name
    by_cases g : ((s = ⟨#[]⟩ ∨ 32 < (s.size : Int)) ∨ s = ⟨#[46]⟩) ∨ s = ⟨#[46, 46]⟩
    · rw [if_pos g]
      show false = nameOk (L s)
      symm
      rw [Bool.eq_false_iff]
      intro h
      unfold nameOk at h
      simp only [Bool.and_eq_true, decide_eq_true_eq, bne_iff_ne] at h
      obtain ⟨⟨⟨⟨h1, h2⟩, h3⟩, h4⟩, _⟩ := h
      rcases g with ((g | g) | g) | g
      · rw [g] at h1; simp [L] at h1
      · rw [L_len] at h2; omega
      · rw [g] at h3; exact h3 rfl
      · rw [g] at h4; exact h4 rfl
    · rw [if_neg g]
      have hall : nameOk (L s) = (L s).all okc := by
        unfold nameOk
        have e1 : 1 ≤ (L s).length := by
          rw [L_len]
          rcases Nat.eq_zero_or_pos s.size with h0 | h0
          · exact absurd (.inl (.inl (.inl (L_inj (List.eq_nil_of_length_eq_zero h0))))) g
          · exact h0
        have e2 : (L s).length ≤ 32 := by
          rw [L_len]
          rcases Nat.lt_or_ge 32 s.size with h0 | h0
          · exact absurd (.inl (.inl (.inr (by omega)))) g
          · exact h0
        have e3 : L s ≠ [46] := fun h => g (.inl (.inr (L_inj h)))
        have e4 : L s ≠ [46, 46] := fun h => g (.inr (L_inj h))
        simp [e1, e2, e3, e4]
      rw [hall]
      have h9 : Tryz.prog.underlying 9 = some .string := by kernel_rfl
      have hr := @awp_range_str ro (fun _ => none) Tryz.prog 9 s (fun v σ => ∃ p21_2, v = Value.pointer (some p21_2) ∧ lfpD (l3_path_Name B ro p21_2 fun r x => r = List.all (L s) okc) () σ) h9
      refine hr ?_
      intro b hro hb
      refine ⟨⟨b, 0, none⟩, rfl, ?_⟩
      suffices ∀ m pos, pos + m = s.size → (∀ i, i < pos → ∀ c, (L s)[i]? = some c → okc c = true) → ∀ σ : AH, σ b = some (.stringIter s pos) → lfpD (l3_path_Name B ro ⟨b, 0, none⟩ fun r _ => r = (L s).all okc) () σ from
        this s.size 0 (Nat.zero_add _) (fun i h => absurd h (Nat.not_lt_zero _)) _ (upd_same _ _ _)
      intro m
      induction m with
      | zero =>
        intro pos hp hk σ hσ
        refine lfpD.intro ?_
        unfold l3_path_Name
        refine awp_next_str hro hσ (fun _ => .inl ⟨rfl, ?_⟩) (fun h => by omega)
        show true = (L s).all okc
        symm
        rw [List.all_eq_true]
        intro c hc
        obtain ⟨i, hi, e⟩ := List.getElem_of_mem hc
        exact hk i (by rw [L_len] at hi; omega) c (by rw [List.getElem?_eq_getElem hi, e])
      | succ m ih =>
        intro pos hp hk σ hσ
        have hpl : pos < (L s).length := by rw [L_len]; omega
        have hps : pos < s.size := by omega
        have hget : s[pos]'hps = (L s)[pos] := rfl
        have hgb : s.get! pos = (L s)[pos] := by
          have e : s.get! pos = s.data[pos]! := rfl
          rw [e, getElem!_pos s.data pos (by exact hps)]
          rfl
        refine lfpD.intro ?_
        unfold l3_path_Name
        refine awp_next_str hro hσ (fun h => by omega) (fun _ => .inr ⟨pos, _, rfl, ?_⟩)
        by_cases ha : ((L s)[pos]).toNat < 128
        · rw [decode_ascii s pos hps (by rw [hget]; exact ha), hget]
          have step : ∀ x : Bool, x = okc ((L s)[pos]) → j6_path_Name B ro ⟨b, 0, none⟩ (fun r _ => r = (L s).all okc) (lfpD (l3_path_Name B ro ⟨b, 0, none⟩ fun r _ => r = (L s).all okc)) x (upd σ b (.stringIter s (pos + 1))) := by
            intro x hx
            unfold j6_path_Name
            split
            · rename_i hx'
              refine ih (pos + 1) (by omega) (fun i hi c hc => ?_) _ (upd_same _ _ _)
              rcases Nat.lt_or_ge i pos with h | h
              · exact hk i h c hc
              · have : i = pos := by omega
                subst this
                rw [List.getElem?_eq_getElem hpl] at hc
                cases hc
                exact hx.symm.trans hx'
            · rename_i hx'
              show false = (L s).all okc
              symm
              rw [Bool.eq_false_iff, ne_eq, List.all_eq_true]
              intro h
              exact hx' (hx.trans (h _ (List.getElem_mem hpl)))
          simp only
          generalize (L s)[pos] = c at step
          have iff : ∀ x : Bool, (x = true ↔ okc c = true) → x = okc c := fun x h => Bool.eq_iff_iff.2 h
          by_cases b1 : (97 : Int) ≤ (c.toNat : Int) ∧ (c.toNat : Int) ≤ 122
          · rw [if_pos b1]
            exact step _ (iff _ (by simp [okc]; omega))
          · rw [if_neg b1]
            by_cases b2 : (48 : Int) ≤ (c.toNat : Int) ∧ (c.toNat : Int) ≤ 57
            · rw [if_pos b2]
              exact step _ (iff _ (by simp [okc]; omega))
            · rw [if_neg b2]
              by_cases b3 : (c.toNat : Int) = 46
              · rw [if_pos b3]
                exact step _ (iff _ (by simp [okc]; omega))
              · rw [if_neg b3]
                by_cases b4 : (c.toNat : Int) = 95
                · rw [if_pos b4]
                  exact step _ (iff _ (by simp [okc]; omega))
                · rw [if_neg b4]
                  exact step _ (iff _ (by simp [okc]; omega))
        · have hbig := decode_big s pos (by rw [hgb]; exact ha)
          generalize (Utf8.decode s pos).1 = x at hbig
          generalize (Utf8.decode s pos).2 = y
          have hno : false = (L s).all okc := by
            symm
            rw [Bool.eq_false_iff, ne_eq, List.all_eq_true]
            intro h
            have := h _ (List.getElem_mem hpl)
            simp [okc] at this
            omega
          rw [if_neg (by omega), if_neg (by omega), if_neg (by omega), if_neg (by omega)]
          unfold j6_path_Name
          rw [if_neg (by simp; omega)]
          exact hno
  exact ACalls.mono this fun v τ ⟨r, hv, hr⟩ => by rw [hv, hr]
end Go.Proofs.YthfpmipeejjogaaGreatDoor.Pa
