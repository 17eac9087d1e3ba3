/- PaB, PaC, ZtG, PaE, PaF -/
import Derived.Laws.RangeString
import Derived.Test.YthfpmipeejjogaaGreatDoorXD
/- Paths, the walk: what package path's functions answer, for every string. -/
namespace Go.Proofs.YthfpmipeejjogaaGreatDoor.Pa
open Go Go.Proofs.YthfpmipeejjogaaGreatDoor.SL Go.Proofs.YthfpmipeejjogaaGreatDoor.G
set_option linter.unusedSimpArgs false
set_option linter.unusedVariables false
variable {B : World} {ro σ σ' : AH} {tag tag' : Nat → Nat}

theorem inc (j : Nat) (h : j < 4611686018427387904) : IntKind.i64.wrap ((j : Int) + 1) = ((j + 1 : Nat) : Int) := by rw [SL.w64_eq (by omega) (by omega)]; rfl

theorem hasPrefix_ok {a p : ByteArray} {Q : Bool → AH → Prop} (hQ : Q ((L p).isPrefixOf (L a)) σ) : c_strings_HasPrefix B ro a p σ Q := by
  refine strings_HasPrefix_ok fun _ => ?_
  unfold f_strings_HasPrefix
  refine stringslite_HasPrefix_ok fun _ => ?_
  unfold f_stringslite_HasPrefix j1_stringslite_HasPrefix
  by_cases h : p.size ≤ a.size
  · rw [if_pos (by omega)]
    refine ⟨⟨⟨by omega, by omega⟩, trivial⟩, ?_⟩
    have e : decide (a.extract 0 (Int.toNat (p.size : Int)) = p) = (L p).isPrefixOf (L a) := by
      rw [Int.toNat_natCast, Bool.eq_iff_iff, decide_eq_true_iff, List.isPrefixOf_iff_prefix, List.prefix_iff_eq_take]
      constructor
      · intro h'; conv => lhs; rw [← h']
        rw [← S_L a, S_extract]; simp [L_len]
      · intro h'
        apply L_inj
        rw [← S_L a, S_extract]; simp only [L_S, List.drop_zero]
        rw [L_len] at h'; exact h'.symm
    rw [e]; exact hQ
  · rw [if_neg (by omega)]
    have e : (L p).isPrefixOf (L a) = false := by
      rw [Bool.eq_false_iff]
      intro h'
      have := (List.isPrefixOf_iff_prefix.1 h').length_le
      rw [L_len, L_len] at this; exact h this
    rw [e] at hQ; exact hQ

theorem last_ok {s : ByteArray} {Q : Int → AH → Prop} (hs : s.size < 4611686018427387904) (hQ : Q (li (L s) s.size) σ) : c_strings_LastIndexByte B ro s 47 σ Q := by
  refine strings_LastIndexByte_ok fun _ => ?_
  unfold f_strings_LastIndexByte
  refine bytealg_LastIndexByteString_ok fun _ => ?_
  unfold f_bytealg_LastIndexByteString
  rw [SL.w64_eq (by omega) (by omega)]
  suffices ∀ k, k ≤ s.size → Q (li (L s) k) σ → lfpD (l2_bytealg_LastIndexByteString B ro s 47 Q) ((k : Int) - 1) σ from this s.size (Nat.le_refl _) hQ
  intro k
  induction k with
  | zero =>
    intro _ h
    refine lfpD.intro ?_
    unfold l2_bytealg_LastIndexByteString
    rw [if_neg (by omega)]
    exact h
  | succ k ih =>
    intro hk h
    refine lfpD.intro ?_
    unfold l2_bytealg_LastIndexByteString
    rw [if_pos (by omega)]
    have e : ((k + 1 : Nat) : Int) - 1 = k := by omega
    rw [e]
    have hkl : k < (L s).length := by rw [L_len]; omega
    have hg : s[k]? = some ((L s)[k]) := by
      conv => lhs; rw [← S_L s]
      rw [S_get, List.getElem?_eq_getElem hkl]
    refine ⟨(L s)[k], by omega, by rw [Int.toNat_natCast]; exact hg, ?_⟩
    unfold li at h
    rw [List.getElem?_eq_getElem hkl] at h
    by_cases c : (L s)[k] = 47
    · rw [if_pos (by rw [c])] at h
      rw [if_pos (by rw [c]; rfl)]
      exact h
    · rw [if_neg (by simpa using c)] at h
      rw [if_neg, SL.w64_eq (by omega) (by omega)]
      · exact ih (by omega) h
      · intro h'
        refine c (UInt8.toNat_inj.1 ?_)
        have : ((L s)[k].toNat : Int) = 47 := h'
        show (L s)[k].toNat = 47
        omega

theorem awp_range_str {P : Program} {t : TypeId} {s : ByteArray} {K : Value → AH → Prop} (ht : P.underlying t = some .string) (h : ∀ b, ro b = none → σ b = none → K (.pointer (some ⟨b, 0, none⟩)) (upd σ b (.stringIter s 0))) : awp P ro (Instr.range t (.string s)) K σ := by
  unfold Instr.range
  simp only [bind_def]
  rw [awp_underlying ht]
  exact h
theorem awp_next_str {P : Program} {t : TypeId} {s : ByteArray} {b pos : Nat} {K : Value → AH → Prop} (hro : ro b = none) (hb : σ b = some (.stringIter s pos)) (h1 : s.size ≤ pos → K (.tuple #[.bool false]) σ)
    (h2 : pos < s.size → K (.tuple #[.bool true, .int .i64 pos, .int .i32 (Utf8.decode s pos).1]) (upd σ b (.stringIter s (pos + (Utf8.decode s pos).2)))) : awp P ro (Instr.next (.pointer (some ⟨b, 0, none⟩)) true t) K σ := by
  unfold Instr.next
  refine ⟨.stringIter s pos, by unfold rd; rw [hro]; exact hb, rfl, ?_⟩
  show awp P ro (if pos < s.size then _ else _) K σ
  by_cases h : pos < s.size
  · rw [if_pos h]
    exact ⟨_, hb, rfl, h2 h⟩
  · rw [if_neg h]
    exact h1 (by omega)
theorem decode_big (s : ByteArray) (pos : Nat) (h : ¬ (s.get! pos).toNat < 128) : 128 ≤ (Utf8.decode s pos).1 := by
  unfold Utf8.decode
  simp only [Nat.add_zero]
  rw [if_neg h]
  repeat' split
  all_goals simp_all [Utf8.runeError]
  all_goals omega

set_option maxRecDepth 100000 in
theorem name_ok {s : ByteArray} {Q : Bool → AH → Prop} (hQ : Q (nameOk (L s)) σ) : c_path_Name B ro s σ Q := by
  refine ACalls.quiet (R := fun v => v = .bool (nameOk (L s))) ?_ (fun v hv => ⟨_, hv, hQ⟩)
  have : c_path_Name B ro s (fun _ => none) fun r _ => r = nameOk (L s) := by
    refine path_Name_ok fun hs => ?_
    unfold f_path_Name
    by_cases g : ((s = ⟨#[]⟩ ∨ 32 < (s.size : Int)) ∨ s = ⟨#[46]⟩) ∨ s = ⟨#[46, 46]⟩
    · rw [if_pos g]
      show false = nameOk (L s)
      symm
      rw [Bool.eq_false_iff]
      intro h
      unfold nameOk at h
      simp only [Bool.and_eq_true, decide_eq_true_eq, bne_iff_ne] at h
      obtain ⟨⟨⟨⟨h1, h2⟩, h3⟩, h4⟩, _⟩ := h
      rcases g with ((g | g) | g) | g
      · rw [g] at h1; simp [L] at h1
      · rw [L_len] at h2; omega
      · rw [g] at h3; exact h3 rfl
      · rw [g] at h4; exact h4 rfl
    · rw [if_neg g]
      have hall : nameOk (L s) = (L s).all okc := by
        unfold nameOk
        have e1 : 1 ≤ (L s).length := by
          rw [L_len]
          rcases Nat.eq_zero_or_pos s.size with h0 | h0
          · exact absurd (.inl (.inl (.inl (L_inj (List.eq_nil_of_length_eq_zero h0))))) g
          · exact h0
        have e2 : (L s).length ≤ 32 := by
          rw [L_len]
          rcases Nat.lt_or_ge 32 s.size with h0 | h0
          · exact absurd (.inl (.inl (.inr (by omega)))) g
          · exact h0
        have e3 : L s ≠ [46] := fun h => g (.inl (.inr (L_inj h)))
        have e4 : L s ≠ [46, 46] := fun h => g (.inr (L_inj h))
        simp [e1, e2, e3, e4]
      rw [hall]
      have h9 : Tryz.prog.underlying 9 = some .string := by kernel_rfl
      have hr := @awp_range_str ro (fun _ => none) Tryz.prog 9 s (fun v σ => ∃ p21_2, v = Value.pointer (some p21_2) ∧ lfpD (l3_path_Name B ro p21_2 fun r x => r = List.all (L s) okc) () σ) h9
      refine hr ?_
      intro b hro hb
      refine ⟨⟨b, 0, none⟩, rfl, ?_⟩
      suffices ∀ m pos, pos + m = s.size → (∀ i, i < pos → ∀ c, (L s)[i]? = some c → okc c = true) → ∀ σ : AH, σ b = some (.stringIter s pos) → lfpD (l3_path_Name B ro ⟨b, 0, none⟩ fun r _ => r = (L s).all okc) () σ from
        this s.size 0 (Nat.zero_add _) (fun i h => absurd h (Nat.not_lt_zero _)) _ (upd_same _ _ _)
      intro m
      induction m with
      | zero =>
        intro pos hp hk σ hσ
        refine lfpD.intro ?_
        unfold l3_path_Name
        refine awp_next_str hro hσ (fun _ => .inl ⟨rfl, ?_⟩) (fun h => by omega)
        show true = (L s).all okc
        symm
        rw [List.all_eq_true]
        intro c hc
        obtain ⟨i, hi, e⟩ := List.getElem_of_mem hc
        exact hk i (by rw [L_len] at hi; omega) c (by rw [List.getElem?_eq_getElem hi, e])
      | succ m ih =>
        intro pos hp hk σ hσ
        have hpl : pos < (L s).length := by rw [L_len]; omega
        have hps : pos < s.size := by omega
        have hget : s[pos]'hps = (L s)[pos] := rfl
        have hgb : s.get! pos = (L s)[pos] := by
          have e : s.get! pos = s.data[pos]! := rfl
          rw [e, getElem!_pos s.data pos (by exact hps)]
          rfl
        refine lfpD.intro ?_
        unfold l3_path_Name
        refine awp_next_str hro hσ (fun h => by omega) (fun _ => .inr ⟨pos, _, rfl, ?_⟩)
        by_cases ha : ((L s)[pos]).toNat < 128
        · rw [decode_ascii s pos hps (by rw [hget]; exact ha), hget]
          have step : ∀ x : Bool, x = okc ((L s)[pos]) → j6_path_Name B ro ⟨b, 0, none⟩ (fun r _ => r = (L s).all okc) (lfpD (l3_path_Name B ro ⟨b, 0, none⟩ fun r _ => r = (L s).all okc)) x (upd σ b (.stringIter s (pos + 1))) := by
            intro x hx
            unfold j6_path_Name
            split
            · rename_i hx'
              refine ih (pos + 1) (by omega) (fun i hi c hc => ?_) _ (upd_same _ _ _)
              rcases Nat.lt_or_ge i pos with h | h
              · exact hk i h c hc
              · have : i = pos := by omega
                subst this
                rw [List.getElem?_eq_getElem hpl] at hc
                cases hc
                exact hx.symm.trans hx'
            · rename_i hx'
              show false = (L s).all okc
              symm
              rw [Bool.eq_false_iff, ne_eq, List.all_eq_true]
              intro h
              exact hx' (hx.trans (h _ (List.getElem_mem hpl)))
          simp only
          generalize (L s)[pos] = c at step
          have iff : ∀ x : Bool, (x = true ↔ okc c = true) → x = okc c := fun x h => Bool.eq_iff_iff.2 h
          by_cases b1 : (97 : Int) ≤ (c.toNat : Int) ∧ (c.toNat : Int) ≤ 122
          · rw [if_pos b1]
            exact step _ (iff _ (by simp [okc]; omega))
          · rw [if_neg b1]
            by_cases b2 : (48 : Int) ≤ (c.toNat : Int) ∧ (c.toNat : Int) ≤ 57
            · rw [if_pos b2]
              exact step _ (iff _ (by simp [okc]; omega))
            · rw [if_neg b2]
              by_cases b3 : (c.toNat : Int) = 46
              · rw [if_pos b3]
                exact step _ (iff _ (by simp [okc]; omega))
              · rw [if_neg b3]
                by_cases b4 : (c.toNat : Int) = 95
                · rw [if_pos b4]
                  exact step _ (iff _ (by simp [okc]; omega))
                · rw [if_neg b4]
                  exact step _ (iff _ (by simp [okc]; omega))
        · have hbig := decode_big s pos (by rw [hgb]; exact ha)
          generalize (Utf8.decode s pos).1 = x at hbig
          generalize (Utf8.decode s pos).2 = y
          have hno : false = (L s).all okc := by
            symm
            rw [Bool.eq_false_iff, ne_eq, List.all_eq_true]
            intro h
            have := h _ (List.getElem_mem hpl)
            simp [okc] at this
            omega
          rw [if_neg (by omega), if_neg (by omega), if_neg (by omega), if_neg (by omega)]
          unfold j6_path_Name
          rw [if_neg (by simp; omega)]
          exact hno
  exact ACalls.mono this fun v τ ⟨r, hv, hr⟩ => by rw [hv, hr]
end Go.Proofs.YthfpmipeejjogaaGreatDoor.Pa

/- Paths, the walk, on: Parts, Check, Parent, Base, Under. -/
namespace Go.Proofs.YthfpmipeejjogaaGreatDoor.Pa
open Go Go.Proofs.YthfpmipeejjogaaGreatDoor.SL Go.Proofs.YthfpmipeejjogaaGreatDoor.G Go.RowKit
set_option linter.unusedSimpArgs false
set_option linter.unusedVariables false
/-- what the laws read of package variables -/
structure Glob (ro : AH) : Prop where
  maxlen : ∃ m o, ro 0 = some o ∧ cellOf ⟨0, 0, none⟩ (some o) = some (.int .i64 m)
  tab : ∀ w : World, (∀ b o, ro b = some o → w.heap[b]? = some o) → Lib.TabIs Tryz.prog w "internal/strconv.uint64pow10" .u64 Lib.pow10Tab
variable {B : World} {ro σ σ' : AH} {tag tag' : Nat → Nat}

theorem sees_ro {w : World} (h : Sees ro σ w) : ∀ b o, ro b = some o → w.heap[b]? = some o := fun b o hb => h b o (by unfold rd; rw [hb])
abbrev vS (l : Str) : Value := .string (S l)

theorem split_ok {s : ByteArray} {Q : Sl → AH → Prop} (r : Nat) (g : Glob ro) (hs : s.size < 4294967281) (hQ : ∀ sl tag' σ', (∀ R, Step R ro tag σ tag' σ') → Row tag' σ' r 9 sl ((cut (L s)).map vS) → Q sl σ') :
    c_strings_Split B ro s (⟨#[47]⟩ : ByteArray) σ Q := by
  refine ACalls.of_calls fun w hw hsep => ?_
  obtain ⟨m, o, h0, h1⟩ := g.maxlen
  have hm : w.cell? ⟨0, 0, none⟩ = some (.int .i64 m) := by rw [cell?_eq, sees_ro hw 0 o h0]; exact h1
  refine (Tryz.strings_Split s (S [47]) m w hs hm (by decide)).mono ?_
  rintro e w' ⟨he, rfl⟩
  have hmap : (Lib.splitB (S [47]) 0 (Lib.countB s (S [47])) s).map Value.string = (cut (L s)).map vS := by
    rw [← split_cut, List.map_map]
    refine List.map_congr_left fun x _ => ?_
    simp [vS]
  have hlen : (cut (L s)).length = Lib.countB s (S [47]) + 1 := by
    have := Lib.splitB_all (S [47]) (by decide) 0 _ s rfl
    rw [← split_cut, List.length_map, this]
  obtain ⟨N, tag', hN, hst, hrow⟩ := new_row (tag := tag) (w' := w.alloc (.cells ((Lib.splitB (S [47]) 0 (Lib.countB s (S [47])) s).map Value.string).toArray 9)) r hw hsep (Nat.le_refl w.heap.size) (heap_alloc_new w _)
  refine ⟨_, N, he, (Below.refl _ w).alloc (Nat.le_refl _) _, hN, ⟨some ⟨w.heap.size, 0, none⟩, Lib.countB s (S [47]) + 1, Lib.countB s (S [47]) + 1⟩, rfl, ?_⟩
  refine hQ _ tag' _ hst (hrow _ _ _ ?_ ?_ (Nat.le_refl _) ?_)
  · rw [List.length_map, hlen]
  · rw [hmap]; simp [hlen]
  · rw [hmap]; simp only [List.toList_toArray]
    rw [List.take_of_length_le (by simp [hlen])]

theorem Row.sget {r : Nat} {e : TypeId} {s : Sl} {l : List Str} (h : Row tag σ r e s (l.map vS)) (hs : SL.Sep ro σ) {i : Nat} (hi : i < l.length) :
    ∃ p, s.a = some p ∧ s.len = l.length ∧ ∀ j (hj : j < l.length), acell ro σ (p.add (j * 1)) = some (vS l[j]) := by
  obtain ⟨p, hp, hg⟩ := h.ptr hs (by simp; omega)
  refine ⟨p, hp, by rw [h.len]; simp, fun j hj => hg j _ ?_⟩
  rw [List.getElem?_map, List.getElem?_eq_getElem hj]; rfl

theorem parts_ok {s : ByteArray} {Q : Sl → Int → AH → Prop} (r : Nat) (g : Glob ro) (hnone : parts (L s) = none → ∀ sl σ', Q sl 20 σ')
    (hsome : ∀ ps, parts (L s) = some ps → ∀ sl tag' σ', Step [] ro tag σ tag' σ' → Row tag' σ' r 9 sl (ps.map vS) → Q sl 0 σ') : c_path_Parts B ro s σ Q := by
  refine path_Parts_ok fun hs => ?_
  unfold f_path_Parts
  by_cases h1 : s = ⟨#[47]⟩
  · rw [if_pos h1]
    refine hsome [] ?_ _ tag σ (Step.refl hs) (Row.nil r 9)
    subst h1; rfl
  · have hne : L s ≠ [47] := fun h => h1 (L_inj h)
    rw [if_neg h1]
    by_cases h2 : 128 < (s.size : Int)
    · rw [if_pos h2]
      unfold j1_path_Parts
      rw [if_pos rfl]
      refine hnone ?_ _ _
      unfold parts; rw [if_neg hne, if_neg]
      intro h; have := h.1; rw [L_len] at this; omega
    · rw [if_neg h2]
      refine hasPrefix_ok ?_
      unfold j1_path_Parts
      by_cases h3 : (L s).head? = some 47
      · obtain ⟨t, ht⟩ : ∃ t, L s = 47 :: t := by
          cases h : L s with
          | nil => rw [h] at h3; cases h3
          | cons c t => rw [h] at h3; cases h3; exact ⟨t, rfl⟩
        have hp : (L (⟨#[47]⟩ : ByteArray)).isPrefixOf (L s) = true := by rw [ht]; rfl
        rw [hp, if_neg (by decide)]
        have hsz : s.size = t.length + 1 := by rw [← L_len, ht]; rfl
        refine ⟨⟨trivial, ⟨by omega, by show (1 : Int) ≤ (s.size : Int); omega⟩⟩, ?_⟩
        have hex : s.extract (Int.toNat 1) s.size = S t := by
          conv => lhs; rw [← S_L s]
          rw [S_extract, S_size, List.take_length, ht]; rfl
        rw [hex]
        refine split_ok (tag := tag) r g (by simp; omega) fun sl tag1 σ1 st1 r1 => ?_
        rw [L_S] at r1
        have hln : sl.len = (cut t).length := by rw [r1.len, List.length_map]
        have hdrop : (L s).drop 1 = t := by rw [ht]; rfl
        by_cases h4 : (cut t).length ≤ 8
        · rw [if_neg (by omega)]
          suffices ∀ m j, j + m = (cut t).length → (∀ i (hi : i < (cut t).length), i < j → nameOk (cut t)[i] = true) → lfpD (l5_path_Parts B ro sl Q) (j : Int) σ1 from
            this _ 0 (Nat.zero_add _) (fun i hi h => absurd h (Nat.not_lt_zero _))
          intro m
          induction m with
          | zero =>
            intro j hj hk
            refine lfpD.intro ?_
            unfold l5_path_Parts
            rw [if_neg (by omega)]
            unfold j4_path_Parts
            refine hsome (cut t) ?_ sl tag1 σ1 (st1 _) r1
            unfold parts
            rw [if_neg hne, hdrop, if_pos]
            refine ⟨by rw [L_len]; omega, h3, h4, ?_⟩
            rw [List.all_eq_true]
            intro x hx
            obtain ⟨i, hi, e⟩ := List.getElem_of_mem hx
            rw [← e]; exact hk i hi (by omega)
          | succ m ih =>
            intro j hj hk
            have hjl : j < (cut t).length := by omega
            obtain ⟨p, hp, _, hg⟩ := Row.sget r1 (st1 []).sep hjl
            refine lfpD.intro ?_
            unfold l5_path_Parts
            rw [if_pos (by omega)]
            refine ⟨p, hp, by omega, by omega, _, hg j hjl, ?_⟩
            refine name_ok ?_
            rw [L_S]
            by_cases h5 : nameOk (cut t)[j] = true
            · rw [if_neg (by simpa using h5), inc j (by omega)]
              refine ih (j + 1) (by omega) fun i hi hij => ?_
              rcases Nat.lt_or_ge i j with h | h
              · exact hk i hi h
              · have : i = j := by omega
                subst this; exact h5
            · rw [if_pos (by simpa using h5)]
              refine hnone ?_ _ _
              unfold parts
              rw [if_neg hne, hdrop, if_neg]
              intro h
              have := List.all_eq_true.1 h.2.2.2 _ (List.getElem_mem hjl)
              exact h5 this
        · rw [if_pos (by omega)]
          refine hnone ?_ _ _
          unfold parts
          rw [if_neg hne, hdrop, if_neg]
          intro h; exact h4 h.2.2.1
      · have hp : (L (⟨#[47]⟩ : ByteArray)).isPrefixOf (L s) = false := by
          rw [Bool.eq_false_iff]
          intro h
          apply h3
          cases hl : L s with
          | nil => rw [hl] at h; cases h
          | cons c t =>
            rw [hl] at h
            have : ([47] : Str).isPrefixOf (c :: t) = true := h
            simp at this
            rw [← this]; rfl
        rw [hp, if_pos (by decide)]
        refine hnone ?_ _ _
        unfold parts
        rw [if_neg hne, if_neg]
        intro h; exact h3 h.2.1

/-- path.Check: 0 or 20 -/
def chk (l : Str) : Int := if (parts l).isSome then 0 else 20
theorem check_ok {s : ByteArray} {Q : Int → AH → Prop} (g : Glob ro) (hQ : Q (chk (L s)) σ) : c_path_Check B ro s σ Q := by
  refine ACalls.quiet (R := fun v => v = .int .i64 (chk (L s))) ?_ (fun v hv => ⟨_, hv, hQ⟩)
  have : c_path_Check B ro s (fun _ => none) fun r _ => r = chk (L s) := by
    refine path_Check_ok fun hs => ?_
    unfold f_path_Check
    refine parts_ok (tag := fun _ => 0) 0 g (fun h _ _ => ?_) (fun ps h _ _ _ _ _ => ?_)
    · show (20 : Int) = chk (L s); unfold chk; rw [h]; rfl
    · show (0 : Int) = chk (L s); unfold chk; rw [h]; rfl
  exact ACalls.mono this fun v τ ⟨r, hv, hr⟩ => by rw [hv, hr]
theorem chk_zero {l : Str} : chk l = 0 ↔ ∃ ps, parts l = some ps := by
  unfold chk
  cases h : parts l with
  | none => simp
  | some ps => simp
theorem slash_iff {ps : List Str} (h : Good ps) : mk ps = [47] ↔ ps = [] :=
  ⟨fun e => Classical.byContradiction fun hn => mk_ne hn h.ok e, fun e => by rw [e]; rfl⟩
theorem li_mk {ps : List Str} {x : Str} (hx : 47 ∉ x) : li (mk (ps ++ [x])) (mk (ps ++ [x])).length = ((if ps = [] then [] else mk ps).length : Int) := by
  rw [mk_snoc]
  have := li_word (if ps = [] then [] else mk ps) x hx x.length (Nat.le_refl _)
  rw [show ((if ps = [] then [] else mk ps) ++ 47 :: x).length = (if ps = [] then [] else mk ps).length + 1 + x.length by simp; omega]
  exact this
theorem mk_pos (ps : List Str) : 1 ≤ (mk ps).length := by obtain ⟨r, h⟩ := mk_head ps; rw [h]; simp

/-- path.Parent: the path above, or the error 20 -/
def parent (l : Str) : Option Str := match parts l with | some ps => if ps = [] then none else some (mk ps.dropLast) | none => none
theorem parent_ok {s : ByteArray} {Q : ByteArray → Int → AH → Prop} (g : Glob ro) (hnone : parent (L s) = none → Q (⟨#[]⟩ : ByteArray) 20 σ) (hsome : ∀ u, parent (L s) = some u → Q (S u) 0 σ) : c_path_Parent B ro s σ Q := by
  refine path_Parent_ok fun hs => ?_
  unfold f_path_Parent
  by_cases h1 : s = ⟨#[47]⟩
  · rw [if_pos h1]
    unfold j1_path_Parent
    rw [if_pos rfl]
    refine hnone ?_
    subst h1; rfl
  · rw [if_neg h1]
    refine check_ok g ?_
    unfold j1_path_Parent
    by_cases h2 : chk (L s) = 0
    · rw [if_neg (by simpa using h2)]
      obtain ⟨ps, hps⟩ := chk_zero.1 h2
      obtain ⟨hl, hg⟩ := parts_iff.1 hps
      have hne : ps ≠ [] := fun e => h1 (L_inj (by rw [hl, e]; rfl))
      obtain ⟨qs, x, rfl⟩ : ∃ qs x, ps = qs ++ [x] := by
        rcases List.eq_nil_or_concat ps with e | ⟨qs, x, e⟩
        · exact absurd e hne
        · exact ⟨qs, x, by rw [e, List.concat_eq_append]⟩
      have hx : 47 ∉ x := name_no (hg.ok x (by simp))
      have hsz : s.size = (mk (qs ++ [x])).length := by rw [← L_len, hl]
      have h128 := hg.len
      refine last_ok (by omega) ?_
      rw [hl, hsz, li_mk hx]
      have hpar : parent (L s) = some (mk qs) := by unfold parent; rw [hps]; simp
      have hlen : (mk (qs ++ [x])).length = (if qs = [] then [] else mk qs).length + 1 + x.length := by rw [mk_snoc]; simp; omega
      have hmax : (if 1 < (((if qs = [] then [] else mk qs).length : Nat) : Int) then (((if qs = [] then [] else mk qs).length : Nat) : Int) else 1) = ((mk qs).length : Int) := by
        by_cases e : qs = []
        · subst e; rfl
        · rw [if_neg e]
          have := mk_pos qs
          split <;> omega
      rw [hmax]
      have hle : (mk qs).length ≤ (mk (qs ++ [x])).length := by
        rw [hlen]
        by_cases e : qs = []
        · subst e; simp [mk]
        · rw [if_neg e]; omega
      refine ⟨⟨⟨by omega, by omega⟩, trivial⟩, ?_⟩
      rw [Int.toNat_natCast]
      have hex : s.extract 0 (mk qs).length = S (mk qs) := by
        conv => lhs; rw [← S_L s]
        rw [S_extract, hl, List.drop_zero]
        congr 1
        rw [mk_snoc]
        by_cases e : qs = []
        · subst e; rfl
        · rw [if_neg e, List.take_left]
      rw [hex]
      exact hsome _ hpar
    · rw [if_pos (by simpa using h2)]
      refine hnone ?_
      unfold parent
      cases h : parts (L s) with
      | none => rfl
      | some ps => exact absurd (chk_zero.2 ⟨ps, h⟩) h2
/-- path.Base: the last name -/
def base (l : Str) : Option Str := match parts l with | some ps => ps.getLast? | none => none
end Go.Proofs.YthfpmipeejjogaaGreatDoor.Pa

/- The variables that the program's text lays, for the rows whose lists bear bytes.ErrTooLarge too. -/
namespace Go.Proofs.YthfpmipeejjogaaGreatDoor.Zt
open Go Go.Proofs.YthfpmipeejjogaaGreatDoor.SL Go.ChangeShapes Go.WideShapes Go.ChangeAt Go.RowKit
set_option linter.unusedVariables false

abbrev LAIDU : List (String × DataW Unit) := Rows.ztreeStillUptoRow.laid
theorem own : ownKnob Tryz.prog.godebug = none := by kernel_rfl
theorem laidOut : laidOutB Tryz.prog = true := by kernel_rfl
theorem var_sees {W w : World} (h : ∀ b o, all W b = some o → w.heap[b]? = some o) {n : String} {cs : Array Value} (hv : W.var? Tryz.prog n = some cs) : w.var? Tryz.prog n = some cs := by
  unfold World.var? at hv ⊢
  obtain ⟨g, hg, hx⟩ := Option.bind_eq_some_iff.1 hv
  rw [hg]
  show (match w.heap[g]? with | some (.cells cs _ _) => some cs | _ => none) = _
  cases hh : W.heap[g]? with
  | none => rw [hh] at hx; cases hx
  | some o => rw [h g o hh]; rw [hh] at hx; exact hx
theorem gPow : Tryz.prog.globalNamed "internal/strconv.uint64pow10" = some 2 := by kernel_rfl
theorem eTab : Tryz.prog.underlying 245 = some (.int .u64) := by kernel_rfl
theorem tPow : (Tryz.prog.globals[2]?).map (·.type) = some 275 := by kernel_rfl
theorem globU {W : World} (hsh : W.ShapedOpen Tryz.prog) (hL : laidMetH Tryz.prog LAIDU W) : Pa.Glob (all W) := by
  rw [MakeChecks.laidMetH_plain _ _ _ (by kernel_rfl)] at hL
  obtain ⟨ps, ⟨g0, t0, cs0, f0, p0, q0, hg0, ht0, hv0, hd0, ⟨g1, t1, cs1, f1, p1, q1, hg1, ht1, hv1, hd1, ⟨g2, t2, cs2, f2, p2, q2, hg2, ht2, hv2, hd2, _, _⟩, _⟩, _⟩, _, _⟩ := hL
  have htab : Lib.TabIs Tryz.prog W "internal/strconv.uint64pow10" .u64 Lib.pow10Tab := by
    obtain rfl := Option.some.inj (gPow.symm.trans hg2)
    obtain rfl := Option.some.inj (tPow.symm.trans ht2)
    unfold Lib.TabIs
    have hd2' : DataW.trod _ Tryz.prog W 0 _ false f2 275 cs2.toList = some (Lib.tabData .u64 Lib.pow10Tab, p2) := hd2
    rw [hv2, ← Lib.cells_of_tab Tryz.underlying275 eTab (by kernel_rfl) (by kernel_rfl) hd2']
  refine ⟨?_, fun w hw => var_sees hw htab⟩
  obtain ⟨m, hm⟩ := Tryz.laysM146.s1_3 W hsh
  have hm : W.cell? ⟨0, 0, none⟩ = some (.int .i64 m) := hm
  rw [cell?_eq] at hm
  cases hh : W.heap[0]? with
  | none => simp only at hm; rw [hh] at hm; cases hm
  | some o => simp only at hm; rw [hh] at hm; exact ⟨m, o, hh, hm⟩
theorem trod_lt' {H : Type} {enc : TypeId × Value → H} {W : World} {t : TypeId} {v : Value} {d : DataW H} {p : List MemPlace} (h : DataW.Trod enc Tryz.prog W 0 (fun _ => true) true t v d p) : ∀ x ∈ p, x.block < W.heap.size := by
  obtain ⟨m, hm⟩ := h; exact DataW.trod_lt m _ _ _ hm
end Go.Proofs.YthfpmipeejjogaaGreatDoor.Zt

/- Paths, the walk: the document's Make, Parent, Base, Under, and package path's Under. -/
namespace Go.Proofs.YthfpmipeejjogaaGreatDoor.Pa
open Go Go.Proofs.YthfpmipeejjogaaGreatDoor.SL Go.Proofs.YthfpmipeejjogaaGreatDoor.G Go.RowKit
set_option linter.unusedSimpArgs false
set_option linter.unusedVariables false
variable {B : World} {ro σ σ' : AH} {tag tag' : Nat → Nat}

theorem good_small {ps : List Str} (h : Good ps) : ps.length < 4611686018427387904 ∧ (mk ps).length < 4611686018427387904 := by
  have := h.n; have := h.len; omega

theorem Row.cap {r : Nat} {e : TypeId} {s : Sl} {l : List Value} (h : Row tag σ r e s l) : s.len ≤ s.cap := by
  rcases h with ⟨e, _⟩ | ⟨_, _, _, _, _, _, _, h, _⟩
  · rw [e]; exact Nat.le_refl _
  · exact h

/-! one path below another -/
theorem cut_app' (a r : Str) : cut (a ++ 47 :: r) = cut a ++ cut r := by
  induction a with
  | nil => rw [List.nil_append]; conv => lhs; unfold cut
           rw [if_pos rfl]; rfl
  | cons c a ih =>
    rw [List.cons_append]
    conv => lhs; unfold cut
    conv => rhs; arg 1; unfold cut
    by_cases h : c = 47
    · rw [if_pos h, if_pos h, ih]; rfl
    · rw [if_neg h, if_neg h, ih]
      cases hc : cut a with
      | nil => exact absurd hc (cut_ne a)
      | cons x xs => rfl
theorem under_iff {ps qs : List Str} (hp : Good ps) (hq : Good qs) (hn : ps ≠ []) : (mk qs = mk ps ∨ (mk ps ++ [47]) <+: mk qs) ↔ ps <+: qs := by
  have hcp : cut ((mk ps).drop 1) = ps := by unfold mk; rw [if_neg hn]; exact cut_mk ps hn fun x hx => name_no (hp.ok x hx)
  constructor
  · rintro (h | ⟨r, h⟩)
    · rw [mk_inj hq hp h]; exact List.prefix_refl _
    · have hqn : qs ≠ [] := by
        intro e
        subst e
        have h1 := congrArg List.length h
        have h2 := mk_pos ps
        simp [mk] at h1
        simp only [mk] at h2
        omega
      have hcq : cut ((mk qs).drop 1) = qs := by unfold mk; rw [if_neg hqn]; exact cut_mk qs hqn fun x hx => name_no (hq.ok x hx)
      have e : (mk qs).drop 1 = (mk ps).drop 1 ++ 47 :: r := by
        rw [← h, List.append_assoc, List.drop_append_of_le_length (mk_pos ps)]; rfl
      rw [e, cut_app', hcp] at hcq
      exact ⟨_, hcq⟩
  · rintro ⟨t, rfl⟩
    cases t with
    | nil => left; rw [List.append_nil]
    | cons x t =>
      right
      have e : mk (ps ++ x :: t) = mk ps ++ [47] ++ (x ++ t.flatMap (fun x => 47 :: x)) := by
        unfold mk
        rw [if_neg (by simp), if_neg hn, List.flatMap_append, List.flatMap_cons]; simp
      exact ⟨_, e.symm⟩
def under (p q : Str) : Option Bool := match parts p, parts q with | some ps, some qs => some (ps.isPrefixOf qs) | _, _ => none
theorem under_ok {p q : ByteArray} {Q : Bool → Int → AH → Prop} (g : Glob ro) (hnone : under (L p) (L q) = none → Q false 20 σ) (hsome : ∀ b, under (L p) (L q) = some b → Q b 0 σ) : c_path_Under B ro p q σ Q := by
  refine path_Under_ok fun hs => ?_
  unfold f_path_Under
  refine check_ok g ?_
  by_cases h1 : chk (L p) = 0
  · rw [if_neg (by simpa using h1)]
    obtain ⟨ps, hps⟩ := chk_zero.1 h1
    refine check_ok g ?_
    unfold j2_path_Under
    by_cases h2 : chk (L q) = 0
    · rw [if_neg (by simpa using h2)]
      obtain ⟨qs, hqs⟩ := chk_zero.1 h2
      obtain ⟨hpl, hpg⟩ := parts_iff.1 hps
      obtain ⟨hql, hqg⟩ := parts_iff.1 hqs
      have hu : under (L p) (L q) = some (ps.isPrefixOf qs) := by unfold under; rw [hps, hqs]
      have hres := hsome _ hu
      unfold j4_path_Under
      by_cases h3 : p = ⟨#[47]⟩ ∨ q = p
      · rw [if_pos h3]
        have : ps.isPrefixOf qs = true := by
          rw [List.isPrefixOf_iff_prefix]
          rcases h3 with h | h
          · have : ps = [] := (slash_iff hpg).1 (by rw [← hpl, h]; rfl)
            rw [this]; exact List.nil_prefix
          · have : ps = qs := by rw [h, hps] at hqs; exact Option.some.inj hqs
            rw [this]; exact List.prefix_refl _
        rw [this] at hres; exact hres
      · rw [if_neg h3]
        have hn : ps ≠ [] := fun e => h3 (.inl (L_inj (by rw [hpl, e]; rfl)))
        have h128 := hpg.len
        have hsz : p.size = (mk ps).length := by rw [← L_len, hpl]
        refine ⟨by show p.size + 1 ≤ _; omega, ?_⟩
        refine hasPrefix_ok ?_
        have e : (L (p ++ (⟨#[47]⟩ : ByteArray))).isPrefixOf (L q) = ps.isPrefixOf qs := by
          rw [L_append, hpl, hql, Bool.eq_iff_iff, List.isPrefixOf_iff_prefix, List.isPrefixOf_iff_prefix, ← under_iff hpg hqg hn]
          constructor
          · intro h; exact .inr h
          · rintro (h | h)
            · exact absurd (.inr (L_inj (by rw [hpl, hql, h]))) h3
            · exact h
        rw [e]; exact hres
    · rw [if_pos (by simpa using h2)]
      refine hnone ?_
      unfold under
      cases h : parts (L q) with
      | none => cases parts (L p) <;> rfl
      | some qs => exact absurd (chk_zero.2 ⟨qs, h⟩) h2
  · rw [if_pos (by simpa using h1)]
    unfold j2_path_Under
    rw [if_pos rfl]
    refine hnone ?_
    unfold under
    cases h : parts (L p) with
    | none => rfl
    | some qs => exact absurd (chk_zero.2 ⟨qs, h⟩) h1
end Go.Proofs.YthfpmipeejjogaaGreatDoor.Pa

/- Paths, the walk: ten digits behind a path. -/
namespace Go.Proofs.YthfpmipeejjogaaGreatDoor.Pa
open Go Go.Proofs.YthfpmipeejjogaaGreatDoor.SL Go.Proofs.YthfpmipeejjogaaGreatDoor.G Go.RowKit
set_option linter.unusedSimpArgs false
set_option linter.unusedVariables false
variable {B : World} {ro σ σ' : AH} {tag tag' : Nat → Nat}

def tens : Nat → Nat → Str
  | 0, _ => []
  | k + 1, n => tens k (n / 10) ++ [UInt8.ofNat (48 + n % 10)]
theorem tens_zero (k : Nat) : tens k 0 = List.replicate k 48 := by
  induction k with
  | zero => rfl
  | succ k ih => rw [tens, Nat.zero_div, ih, List.replicate_succ']; rfl
theorem tens_dec : ∀ (k n : Nat), n < 10 ^ (k + 1) → (Lib.decDigits n).length ≤ k + 1 ∧ List.replicate (k + 1 - (Lib.decDigits n).length) 48 ++ Lib.decDigits n = tens (k + 1) n := by
  intro k
  induction k with
  | zero =>
    intro n h
    have h : n < 10 := by simpa using h
    rw [Lib.decDigits, dif_pos h]
    refine ⟨by simp, ?_⟩
    simp [tens, Nat.mod_eq_of_lt h]
  | succ k ih =>
    intro n h
    by_cases h10 : n < 10
    · rw [Lib.decDigits, dif_pos h10]
      refine ⟨by simp, ?_⟩
      rw [tens, Nat.div_eq_of_lt h10, tens_zero, Nat.mod_eq_of_lt h10]; simp
    · rw [Lib.decDigits, dif_neg h10]
      obtain ⟨h1, h2⟩ := ih (n / 10) (by rw [Nat.div_lt_iff_lt_mul (by omega)]; rw [Nat.pow_succ] at h; exact h)
      refine ⟨by simp; omega, ?_⟩
      rw [tens, ← h2]
      simp only [List.length_append, List.length_cons, List.length_nil, ← List.append_assoc]
      rw [show k + 1 + 1 - ((Lib.decDigits (n / 10)).length + (0 + 1)) = k + 1 - (Lib.decDigits (n / 10)).length by omega]
theorem tens_len (k n : Nat) : (tens k n).length = k := by
  induction k generalizing n with
  | zero => rfl
  | succ k ih => rw [tens, List.length_append, ih]; rfl
theorem repeatL_rep (c : UInt8) (k : Nat) : Lib.repeatL [c] k = List.replicate k c := by
  induction k with
  | zero => rfl
  | succ k ih => rw [Lib.repeatL, ih]; rfl

theorem itoa_ok {n : Nat} {Q : ByteArray → AH → Prop} (g : Glob ro) (hn : n < 9223372036854775808) (hQ : Q (S (Lib.decDigits n)) σ) : c_strconv_Itoa B ro (n : Int) σ Q := by
  refine ACalls.of_calls fun w hw hsep => ?_
  refine (Tryz.strconv_Itoa (n : Int) (by omega) (by omega) w (g.tab w (sees_ro hw))).mono ?_
  rintro e w' ⟨he, k, os, rfl⟩
  have hb : Below w.heap.size w (Go.Sort.grow (w.drewN k) os) := ⟨rfl, rfl, rfl, by simp [Go.Sort.grow, World.drewN], fun b hb => by
    simp only [Go.Sort.grow, World.drewN]
    rw [Array.getElem?_append_left hb]⟩
  refine ⟨_, fun _ => none, he, hb, News.none _ _, S (Lib.decDigits n), ?_, ?_⟩
  · rw [Lib.itoa_nonneg]; rfl
  · rw [join_none_right]; exact hQ
theorem repeat_ok {k : Nat} {Q : ByteArray → AH → Prop} (hk : k ≤ 100) (hQ : Q (S (List.replicate k 48)) σ) : c_strings_Repeat B ro (⟨#[48]⟩ : ByteArray) (k : Int) σ Q := by
  refine ACalls.of_calls fun w hw hsep => ?_
  refine (Tryz.strings_Repeat (⟨#[48]⟩ : ByteArray) k w (by omega) (by show 1 * k ≤ _; omega)).mono ?_
  rintro e w' ⟨he, hb⟩
  refine ⟨_, fun _ => none, he, hb, News.none _ _, S (List.replicate k 48), ?_, ?_⟩
  · rw [show (⟨#[48]⟩ : ByteArray).data.toList = [48] from rfl, repeatL_rep]; rfl
  · rw [join_none_right]; exact hQ
def digits (n : Int) : Str := tens 10 n.toNat
def suffix (l : Str) (n : Int) : Option Str :=
  match parts l with
  | some ps => if ps = [] ∨ n < 0 ∨ 9999999999 < n then none else if (parts (l ++ digits n)).isSome then some (l ++ digits n) else none
  | none => none
theorem suffix_ok {p : ByteArray} {n : Int} {Q : ByteArray → Int → AH → Prop} (g : Glob ro) (hnone : suffix (L p) n = none → Q (⟨#[]⟩ : ByteArray) 20 σ) (hsome : ∀ u, suffix (L p) n = some u → Q (S u) 0 σ) : c_path_Suffix B ro p n σ Q := by
  refine path_Suffix_ok fun hs => ?_
  unfold f_path_Suffix
  by_cases h1 : (p = ⟨#[47]⟩ ∨ n < 0) ∨ 9999999999 < n
  · rw [if_pos h1]
    unfold j1_path_Suffix
    rw [if_pos rfl]
    refine hnone ?_
    unfold suffix
    cases h : parts (L p) with
    | none => rfl
    | some ps =>
      obtain ⟨hl, hg⟩ := parts_iff.1 h
      refine if_pos ?_
      rcases h1 with (h1 | h1) | h1
      · exact .inl ((slash_iff hg).1 (by rw [← hl, h1]; rfl))
      · exact .inr (.inl h1)
      · exact .inr (.inr h1)
  · rw [if_neg h1]
    have hp1 : p ≠ ⟨#[47]⟩ := fun h => h1 (.inl (.inl h))
    obtain ⟨m, rfl⟩ : ∃ m : Nat, n = m := ⟨n.toNat, by omega⟩
    refine check_ok g ?_
    unfold j1_path_Suffix
    by_cases h2 : chk (L p) = 0
    · rw [if_neg (by simpa using h2)]
      obtain ⟨ps, hps⟩ := chk_zero.1 h2
      obtain ⟨hl, hg⟩ := parts_iff.1 hps
      have hn : ps ≠ [] := fun e => hp1 (L_inj (by rw [hl, e]; rfl))
      refine itoa_ok g (by omega) ?_
      obtain ⟨hd1, hd2⟩ := tens_dec 9 m (by show m < 10000000000; omega)
      have e1 : IntKind.i64.wrap (10 - ((S (Lib.decDigits m)).size : Int)) = ((9 + 1 - (Lib.decDigits m).length : Nat) : Int) := by
        rw [S_size, SL.w64_eq (by omega) (by omega)]; omega
      rw [e1]
      refine repeat_ok (by omega) ?_
      have hsz : p.size = (mk ps).length := by rw [← L_len, hl]
      have h128 := hg.len
      rw [S_append, hd2]
      refine ⟨by simp only [S_size, List.length_replicate]; omega, by rw [S_size, tens_len]; omega, ?_⟩
      have e2 : p ++ S (tens (9 + 1) m) = S (L p ++ digits m) := by
        conv => lhs; rw [← S_L p]
        rw [S_append]; rfl
      rw [e2]
      refine check_ok g ?_
      rw [L_S]
      have hsuf : suffix (L p) (m : Int) = if (parts (L p ++ digits m)).isSome then some (L p ++ digits m) else none := by
        unfold suffix; rw [hps]; simp only; rw [if_neg fun h => h.elim hn (by omega)]
      by_cases h3 : chk (L p ++ digits m) = 0
      · rw [if_neg (by simpa using h3)]
        obtain ⟨qs, hqs⟩ := chk_zero.1 h3
        refine hsome _ ?_
        rw [hsuf, hqs]; rfl
      · rw [if_pos (by simpa using h3)]
        have e3 : parts (L p ++ digits m) = none := by
          cases h : parts (L p ++ digits m) with
          | none => rfl
          | some qs => exact absurd (chk_zero.2 ⟨qs, h⟩) h3
        have : chk (L p ++ digits m) = 20 := by unfold chk; rw [e3]; rfl
        rw [this]
        refine hnone ?_
        rw [hsuf, e3]; rfl
    · rw [if_pos (by simpa using h2)]
      refine hnone ?_
      unfold suffix
      cases h : parts (L p) with
      | none => rfl
      | some ps => exact absurd (chk_zero.2 ⟨ps, h⟩) h2
end Go.Proofs.YthfpmipeejjogaaGreatDoor.Pa
