/- PaB, PaC, ZtG, RfA, RfB, RfC -/
import Derived.Laws.RangeString
import Derived.CallsIn
import Derived.RangeFuncWrites
import Derived.RangeFuncLeaves
import Derived.RangeFuncBox
import Derived.Shelf.Abstract
import Derived.WalkKit
import Derived.OwnWalkIn
import Derived.TacticsInMore
import Derived.LoopNIn
import Derived.LoopIn
import Derived.Test.YthfpmipeejjogaaGreatDoorProg
import Derived.Test.YthfpmipeejjogaaGreatDoorXD
/- Paths, the walk: what package path's functions answer, for every string. -/
namespace Go.Proofs.YthfpmipeejjogaaGreatDoor.Pa
open Go Go.Proofs.YthfpmipeejjogaaGreatDoor.SL Go.Proofs.YthfpmipeejjogaaGreatDoor.G
set_option linter.unusedSimpArgs false
set_option linter.unusedVariables false
variable {B : World} {ro σ σ' : AH} {tag tag' : Nat → Nat}

theorem inc (j : Nat) (h : j < 4611686018427387904) : IntKind.i64.wrap ((j : Int) + 1) = ((j + 1 : Nat) : Int) := by rw [SL.w64_eq (by omega) (by omega)]; rfl

theorem hasPrefix_ok {a p : ByteArray} {Q : Bool → AH → Prop} (hQ : Q ((L p).isPrefixOf (L a)) σ) : c_strings_HasPrefix B ro a p σ Q := by
  refine strings_HasPrefix_ok fun _ => ?_
  unfold f_strings_HasPrefix
  refine stringslite_HasPrefix_ok fun _ => ?_
  unfold f_stringslite_HasPrefix j1_stringslite_HasPrefix
  by_cases h : p.size ≤ a.size
  · rw [if_pos (by omega)]
    refine ⟨⟨⟨by omega, by omega⟩, trivial⟩, ?_⟩
    have e : decide (a.extract 0 (Int.toNat (p.size : Int)) = p) = (L p).isPrefixOf (L a) := by
      rw [Int.toNat_natCast, Bool.eq_iff_iff, decide_eq_true_iff, List.isPrefixOf_iff_prefix, List.prefix_iff_eq_take]
      constructor
      · intro h'; conv => lhs; rw [← h']
        rw [← S_L a, S_extract]; simp [L_len]
      · intro h'
        apply L_inj
        rw [← S_L a, S_extract]; simp only [L_S, List.drop_zero]
        rw [L_len] at h'; exact h'.symm
    rw [e]; exact hQ
  · rw [if_neg (by omega)]
    have e : (L p).isPrefixOf (L a) = false := by
      rw [Bool.eq_false_iff]
      intro h'
      have := (List.isPrefixOf_iff_prefix.1 h').length_le
      rw [L_len, L_len] at this; exact h this
    rw [e] at hQ; exact hQ

theorem last_ok {s : ByteArray} {Q : Int → AH → Prop} (hs : s.size < 4611686018427387904) (hQ : Q (li (L s) s.size) σ) : c_strings_LastIndexByte B ro s 47 σ Q := by
  refine strings_LastIndexByte_ok fun _ => ?_
  unfold f_strings_LastIndexByte
  refine bytealg_LastIndexByteString_ok fun _ => ?_
  unfold f_bytealg_LastIndexByteString
  rw [SL.w64_eq (by omega) (by omega)]
  suffices ∀ k, k ≤ s.size → Q (li (L s) k) σ → lfpD (l2_bytealg_LastIndexByteString B ro s 47 Q) ((k : Int) - 1) σ from this s.size (Nat.le_refl _) hQ
  intro k
  induction k with
  | zero =>
    intro _ h
    refine lfpD.intro ?_
    unfold l2_bytealg_LastIndexByteString
    rw [if_neg (by omega)]
    exact h
  | succ k ih =>
    intro hk h
    refine lfpD.intro ?_
    unfold l2_bytealg_LastIndexByteString
    rw [if_pos (by omega)]
    have e : ((k + 1 : Nat) : Int) - 1 = k := by omega
    rw [e]
    have hkl : k < (L s).length := by rw [L_len]; omega
    have hg : s[k]? = some ((L s)[k]) := by
      conv => lhs; rw [← S_L s]
      rw [S_get, List.getElem?_eq_getElem hkl]
    refine ⟨(L s)[k], by omega, by rw [Int.toNat_natCast]; exact hg, ?_⟩
    unfold li at h
    rw [List.getElem?_eq_getElem hkl] at h
    by_cases c : (L s)[k] = 47
    · rw [if_pos (by rw [c])] at h
      rw [if_pos (by rw [c]; rfl)]
      exact h
    · rw [if_neg (by simpa using c)] at h
      rw [if_neg, SL.w64_eq (by omega) (by omega)]
      · exact ih (by omega) h
      · intro h'
        refine c (UInt8.toNat_inj.1 ?_)
        have : ((L s)[k].toNat : Int) = 47 := h'
        show (L s)[k].toNat = 47
        omega

theorem awp_range_str {P : Program} {t : TypeId} {s : ByteArray} {K : Value → AH → Prop} (ht : P.underlying t = some .string) (h : ∀ b, ro b = none → σ b = none → K (.pointer (some ⟨b, 0, none⟩)) (upd σ b (.stringIter s 0))) : awp P ro (Instr.range t (.string s)) K σ := by
  unfold Instr.range
  simp only [bind_def]
  rw [awp_underlying ht]
  exact h
theorem awp_next_str {P : Program} {t : TypeId} {s : ByteArray} {b pos : Nat} {K : Value → AH → Prop} (hro : ro b = none) (hb : σ b = some (.stringIter s pos)) (h1 : s.size ≤ pos → K (.tuple #[.bool false]) σ)
    (h2 : pos < s.size → K (.tuple #[.bool true, .int .i64 pos, .int .i32 (Utf8.decode s pos).1]) (upd σ b (.stringIter s (pos + (Utf8.decode s pos).2)))) : awp P ro (Instr.next (.pointer (some ⟨b, 0, none⟩)) true t) K σ := by
  unfold Instr.next
  refine ⟨.stringIter s pos, by unfold rd; rw [hro]; exact hb, rfl, ?_⟩
  show awp P ro (if pos < s.size then _ else _) K σ
  by_cases h : pos < s.size
  · rw [if_pos h]
    exact ⟨_, hb, rfl, h2 h⟩
  · rw [if_neg h]
    exact h1 (by omega)
theorem decode_big (s : ByteArray) (pos : Nat) (h : ¬ (s.get! pos).toNat < 128) : 128 ≤ (Utf8.decode s pos).1 := by
  unfold Utf8.decode
  simp only [Nat.add_zero]
  rw [if_neg h]
  repeat' split
  all_goals simp_all [Utf8.runeError]
  all_goals omega

set_option maxRecDepth 100000 in
theorem name_ok {s : ByteArray} {Q : Bool → AH → Prop} (hQ : Q (nameOk (L s)) σ) : c_path_Name B ro s σ Q := by
  refine ACalls.quiet (R := fun v => v = .bool (nameOk (L s))) ?_ (fun v hv => ⟨_, hv, hQ⟩)
  have : c_path_Name B ro s (fun _ => none) fun r _ => r = nameOk (L s) := by
    refine path_Name_ok fun hs => ?_
    unfold f_path_Name
    by_cases g : ((s = ⟨#[]⟩ ∨ 32 < (s.size : Int)) ∨ s = ⟨#[46]⟩) ∨ s = ⟨#[46, 46]⟩
    · rw [if_pos g]
      show false = nameOk (L s)
      symm
      rw [Bool.eq_false_iff]
      intro h
      unfold nameOk at h
      simp only [Bool.and_eq_true, decide_eq_true_eq, bne_iff_ne] at h
      obtain ⟨⟨⟨⟨h1, h2⟩, h3⟩, h4⟩, _⟩ := h
      rcases g with ((g | g) | g) | g
      · rw [g] at h1; simp [L] at h1
      · rw [L_len] at h2; omega
      · rw [g] at h3; exact h3 rfl
      · rw [g] at h4; exact h4 rfl
    · rw [if_neg g]
      have hall : nameOk (L s) = (L s).all okc := by
        unfold nameOk
        have e1 : 1 ≤ (L s).length := by
          rw [L_len]
          rcases Nat.eq_zero_or_pos s.size with h0 | h0
          · exact absurd (.inl (.inl (.inl (L_inj (List.eq_nil_of_length_eq_zero h0))))) g
          · exact h0
        have e2 : (L s).length ≤ 32 := by
          rw [L_len]
          rcases Nat.lt_or_ge 32 s.size with h0 | h0
          · exact absurd (.inl (.inl (.inr (by omega)))) g
          · exact h0
        have e3 : L s ≠ [46] := fun h => g (.inl (.inr (L_inj h)))
        have e4 : L s ≠ [46, 46] := fun h => g (.inr (L_inj h))
        simp [e1, e2, e3, e4]
      rw [hall]
      have h9 : Tryz.prog.underlying 9 = some .string := by kernel_rfl
      have hr := @awp_range_str ro (fun _ => none) Tryz.prog 9 s (fun v σ => ∃ p21_2, v = Value.pointer (some p21_2) ∧ lfpD (l3_path_Name B ro p21_2 fun r x => r = List.all (L s) okc) () σ) h9
      refine hr ?_
      intro b hro hb
      refine ⟨⟨b, 0, none⟩, rfl, ?_⟩
      suffices ∀ m pos, pos + m = s.size → (∀ i, i < pos → ∀ c, (L s)[i]? = some c → okc c = true) → ∀ σ : AH, σ b = some (.stringIter s pos) → lfpD (l3_path_Name B ro ⟨b, 0, none⟩ fun r _ => r = (L s).all okc) () σ from
        this s.size 0 (Nat.zero_add _) (fun i h => absurd h (Nat.not_lt_zero _)) _ (upd_same _ _ _)
      intro m
      induction m with
      | zero =>
        intro pos hp hk σ hσ
        refine lfpD.intro ?_
        unfold l3_path_Name
        refine awp_next_str hro hσ (fun _ => .inl ⟨rfl, ?_⟩) (fun h => by omega)
        show true = (L s).all okc
        symm
        rw [List.all_eq_true]
        intro c hc
        obtain ⟨i, hi, e⟩ := List.getElem_of_mem hc
        exact hk i (by rw [L_len] at hi; omega) c (by rw [List.getElem?_eq_getElem hi, e])
      | succ m ih =>
        intro pos hp hk σ hσ
        have hpl : pos < (L s).length := by rw [L_len]; omega
        have hps : pos < s.size := by omega
        have hget : s[pos]'hps = (L s)[pos] := rfl
        have hgb : s.get! pos = (L s)[pos] := by
          have e : s.get! pos = s.data[pos]! := rfl
          rw [e, getElem!_pos s.data pos (by exact hps)]
          rfl
        refine lfpD.intro ?_
        unfold l3_path_Name
        refine awp_next_str hro hσ (fun h => by omega) (fun _ => .inr ⟨pos, _, rfl, ?_⟩)
        by_cases ha : ((L s)[pos]).toNat < 128
        · rw [decode_ascii s pos hps (by rw [hget]; exact ha), hget]
          have step : ∀ x : Bool, x = okc ((L s)[pos]) → j6_path_Name B ro ⟨b, 0, none⟩ (fun r _ => r = (L s).all okc) (lfpD (l3_path_Name B ro ⟨b, 0, none⟩ fun r _ => r = (L s).all okc)) x (upd σ b (.stringIter s (pos + 1))) := by
            intro x hx
            unfold j6_path_Name
            split
            · rename_i hx'
              refine ih (pos + 1) (by omega) (fun i hi c hc => ?_) _ (upd_same _ _ _)
              rcases Nat.lt_or_ge i pos with h | h
              · exact hk i h c hc
              · have : i = pos := by omega
                subst this
                rw [List.getElem?_eq_getElem hpl] at hc
                cases hc
                exact hx.symm.trans hx'
            · rename_i hx'
              show false = (L s).all okc
              symm
              rw [Bool.eq_false_iff, ne_eq, List.all_eq_true]
              intro h
              exact hx' (hx.trans (h _ (List.getElem_mem hpl)))
          simp only
          generalize (L s)[pos] = c at step
          have iff : ∀ x : Bool, (x = true ↔ okc c = true) → x = okc c := fun x h => Bool.eq_iff_iff.2 h
          by_cases b1 : (97 : Int) ≤ (c.toNat : Int) ∧ (c.toNat : Int) ≤ 122
          · rw [if_pos b1]
            exact step _ (iff _ (by simp [okc]; omega))
          · rw [if_neg b1]
            by_cases b2 : (48 : Int) ≤ (c.toNat : Int) ∧ (c.toNat : Int) ≤ 57
            · rw [if_pos b2]
              exact step _ (iff _ (by simp [okc]; omega))
            · rw [if_neg b2]
              by_cases b3 : (c.toNat : Int) = 46
              · rw [if_pos b3]
                exact step _ (iff _ (by simp [okc]; omega))
              · rw [if_neg b3]
                by_cases b4 : (c.toNat : Int) = 95
                · rw [if_pos b4]
                  exact step _ (iff _ (by simp [okc]; omega))
                · rw [if_neg b4]
                  exact step _ (iff _ (by simp [okc]; omega))
        · have hbig := decode_big s pos (by rw [hgb]; exact ha)
          generalize (Utf8.decode s pos).1 = x at hbig
          generalize (Utf8.decode s pos).2 = y
          have hno : false = (L s).all okc := by
            symm
            rw [Bool.eq_false_iff, ne_eq, List.all_eq_true]
            intro h
            have := h _ (List.getElem_mem hpl)
            simp [okc] at this
            omega
          rw [if_neg (by omega), if_neg (by omega), if_neg (by omega), if_neg (by omega)]
          unfold j6_path_Name
          rw [if_neg (by simp; omega)]
          exact hno
  exact ACalls.mono this fun v τ ⟨r, hv, hr⟩ => by rw [hv, hr]
end Go.Proofs.YthfpmipeejjogaaGreatDoor.Pa

/- Paths, the walk, on: Parts, Check, Parent, Base, Under. -/
namespace Go.Proofs.YthfpmipeejjogaaGreatDoor.Pa
open Go Go.Proofs.YthfpmipeejjogaaGreatDoor.SL Go.Proofs.YthfpmipeejjogaaGreatDoor.G Go.RowKit
set_option linter.unusedSimpArgs false
set_option linter.unusedVariables false
/-- what the laws read of package variables -/
structure Glob (ro : AH) : Prop where
  maxlen : ∃ m o, ro 0 = some o ∧ cellOf ⟨0, 0, none⟩ (some o) = some (.int .i64 m)
  tab : ∀ w : World, (∀ b o, ro b = some o → w.heap[b]? = some o) → Lib.TabIs Tryz.prog w "internal/strconv.uint64pow10" .u64 Lib.pow10Tab
variable {B : World} {ro σ σ' : AH} {tag tag' : Nat → Nat}

theorem sees_ro {w : World} (h : Sees ro σ w) : ∀ b o, ro b = some o → w.heap[b]? = some o := fun b o hb => h b o (by unfold rd; rw [hb])
abbrev vS (l : Str) : Value := .string (S l)

theorem split_ok {s : ByteArray} {Q : Sl → AH → Prop} (r : Nat) (g : Glob ro) (hs : s.size < 4294967281) (hQ : ∀ sl tag' σ', (∀ R, Step R ro tag σ tag' σ') → Row tag' σ' r 9 sl ((cut (L s)).map vS) → Q sl σ') :
    c_strings_Split B ro s (⟨#[47]⟩ : ByteArray) σ Q := by
  refine ACalls.of_calls fun w hw hsep => ?_
  obtain ⟨m, o, h0, h1⟩ := g.maxlen
  have hm : w.cell? ⟨0, 0, none⟩ = some (.int .i64 m) := by rw [cell?_eq, sees_ro hw 0 o h0]; exact h1
  refine (Tryz.strings_Split s (S [47]) m w hs hm (by decide)).mono ?_
  rintro e w' ⟨he, rfl⟩
  have hmap : (Lib.splitB (S [47]) 0 (Lib.countB s (S [47])) s).map Value.string = (cut (L s)).map vS := by
    rw [← split_cut, List.map_map]
    refine List.map_congr_left fun x _ => ?_
    simp [vS]
  have hlen : (cut (L s)).length = Lib.countB s (S [47]) + 1 := by
    have := Lib.splitB_all (S [47]) (by decide) 0 _ s rfl
    rw [← split_cut, List.length_map, this]
  obtain ⟨N, tag', hN, hst, hrow⟩ := new_row (tag := tag) (w' := w.alloc (.cells ((Lib.splitB (S [47]) 0 (Lib.countB s (S [47])) s).map Value.string).toArray 9)) r hw hsep (Nat.le_refl w.heap.size) (heap_alloc_new w _)
  refine ⟨_, N, he, (Below.refl _ w).alloc (Nat.le_refl _) _, hN, ⟨some ⟨w.heap.size, 0, none⟩, Lib.countB s (S [47]) + 1, Lib.countB s (S [47]) + 1⟩, rfl, ?_⟩
  refine hQ _ tag' _ hst (hrow _ _ _ ?_ ?_ (Nat.le_refl _) ?_)
  · rw [List.length_map, hlen]
  · rw [hmap]; simp [hlen]
  · rw [hmap]; simp only [List.toList_toArray]
    rw [List.take_of_length_le (by simp [hlen])]

theorem Row.sget {r : Nat} {e : TypeId} {s : Sl} {l : List Str} (h : Row tag σ r e s (l.map vS)) (hs : SL.Sep ro σ) {i : Nat} (hi : i < l.length) :
    ∃ p, s.a = some p ∧ s.len = l.length ∧ ∀ j (hj : j < l.length), acell ro σ (p.add (j * 1)) = some (vS l[j]) := by
  obtain ⟨p, hp, hg⟩ := h.ptr hs (by simp; omega)
  refine ⟨p, hp, by rw [h.len]; simp, fun j hj => hg j _ ?_⟩
  rw [List.getElem?_map, List.getElem?_eq_getElem hj]; rfl

theorem parts_ok {s : ByteArray} {Q : Sl → Int → AH → Prop} (r : Nat) (g : Glob ro) (hnone : parts (L s) = none → ∀ sl σ', Q sl 20 σ')
    (hsome : ∀ ps, parts (L s) = some ps → ∀ sl tag' σ', Step [] ro tag σ tag' σ' → Row tag' σ' r 9 sl (ps.map vS) → Q sl 0 σ') : c_path_Parts B ro s σ Q := by
  refine path_Parts_ok fun hs => ?_
  unfold f_path_Parts
  by_cases h1 : s = ⟨#[47]⟩
  · rw [if_pos h1]
    refine hsome [] ?_ _ tag σ (Step.refl hs) (Row.nil r 9)
    subst h1; rfl
  · have hne : L s ≠ [47] := fun h => h1 (L_inj h)
    rw [if_neg h1]
    by_cases h2 : 128 < (s.size : Int)
    · rw [if_pos h2]
      unfold j1_path_Parts
      rw [if_pos rfl]
      refine hnone ?_ _ _
      unfold parts; rw [if_neg hne, if_neg]
      intro h; have := h.1; rw [L_len] at this; omega
    · rw [if_neg h2]
      refine hasPrefix_ok ?_
      unfold j1_path_Parts
      by_cases h3 : (L s).head? = some 47
      · obtain ⟨t, ht⟩ : ∃ t, L s = 47 :: t := by
          cases h : L s with
          | nil => rw [h] at h3; cases h3
          | cons c t => rw [h] at h3; cases h3; exact ⟨t, rfl⟩
        have hp : (L (⟨#[47]⟩ : ByteArray)).isPrefixOf (L s) = true := by rw [ht]; rfl
        rw [hp, if_neg (by decide)]
        have hsz : s.size = t.length + 1 := by rw [← L_len, ht]; rfl
        refine ⟨⟨trivial, ⟨by omega, by show (1 : Int) ≤ (s.size : Int); omega⟩⟩, ?_⟩
        have hex : s.extract (Int.toNat 1) s.size = S t := by
          conv => lhs; rw [← S_L s]
          rw [S_extract, S_size, List.take_length, ht]; rfl
        rw [hex]
        refine split_ok (tag := tag) r g (by simp; omega) fun sl tag1 σ1 st1 r1 => ?_
        rw [L_S] at r1
        have hln : sl.len = (cut t).length := by rw [r1.len, List.length_map]
        have hdrop : (L s).drop 1 = t := by rw [ht]; rfl
        by_cases h4 : (cut t).length ≤ 8
        · rw [if_neg (by omega)]
          suffices ∀ m j, j + m = (cut t).length → (∀ i (hi : i < (cut t).length), i < j → nameOk (cut t)[i] = true) → lfpD (l5_path_Parts B ro sl Q) (j : Int) σ1 from
            this _ 0 (Nat.zero_add _) (fun i hi h => absurd h (Nat.not_lt_zero _))
          intro m
          induction m with
          | zero =>
            intro j hj hk
            refine lfpD.intro ?_
            unfold l5_path_Parts
            rw [if_neg (by omega)]
            unfold j4_path_Parts
            refine hsome (cut t) ?_ sl tag1 σ1 (st1 _) r1
            unfold parts
            rw [if_neg hne, hdrop, if_pos]
            refine ⟨by rw [L_len]; omega, h3, h4, ?_⟩
            rw [List.all_eq_true]
            intro x hx
            obtain ⟨i, hi, e⟩ := List.getElem_of_mem hx
            rw [← e]; exact hk i hi (by omega)
          | succ m ih =>
            intro j hj hk
            have hjl : j < (cut t).length := by omega
            obtain ⟨p, hp, _, hg⟩ := Row.sget r1 (st1 []).sep hjl
            refine lfpD.intro ?_
            unfold l5_path_Parts
            rw [if_pos (by omega)]
            refine ⟨p, hp, by omega, by omega, _, hg j hjl, ?_⟩
            refine name_ok ?_
            rw [L_S]
            by_cases h5 : nameOk (cut t)[j] = true
            · rw [if_neg (by simpa using h5), inc j (by omega)]
              refine ih (j + 1) (by omega) fun i hi hij => ?_
              rcases Nat.lt_or_ge i j with h | h
              · exact hk i hi h
              · have : i = j := by omega
                subst this; exact h5
            · rw [if_pos (by simpa using h5)]
              refine hnone ?_ _ _
              unfold parts
              rw [if_neg hne, hdrop, if_neg]
              intro h
              have := List.all_eq_true.1 h.2.2.2 _ (List.getElem_mem hjl)
              exact h5 this
        · rw [if_pos (by omega)]
          refine hnone ?_ _ _
          unfold parts
          rw [if_neg hne, hdrop, if_neg]
          intro h; exact h4 h.2.2.1
      · have hp : (L (⟨#[47]⟩ : ByteArray)).isPrefixOf (L s) = false := by
          rw [Bool.eq_false_iff]
          intro h
          apply h3
          cases hl : L s with
          | nil => rw [hl] at h; cases h
          | cons c t =>
            rw [hl] at h
            have : ([47] : Str).isPrefixOf (c :: t) = true := h
            simp at this
            rw [← this]; rfl
        rw [hp, if_pos (by decide)]
        refine hnone ?_ _ _
        unfold parts
        rw [if_neg hne, if_neg]
        intro h; exact h3 h.2.1

/-- path.Check: 0 or 20 -/
def chk (l : Str) : Int := if (parts l).isSome then 0 else 20
theorem check_ok {s : ByteArray} {Q : Int → AH → Prop} (g : Glob ro) (hQ : Q (chk (L s)) σ) : c_path_Check B ro s σ Q := by
  refine ACalls.quiet (R := fun v => v = .int .i64 (chk (L s))) ?_ (fun v hv => ⟨_, hv, hQ⟩)
  have : c_path_Check B ro s (fun _ => none) fun r _ => r = chk (L s) := by
    refine path_Check_ok fun hs => ?_
    unfold f_path_Check
    refine parts_ok (tag := fun _ => 0) 0 g (fun h _ _ => ?_) (fun ps h _ _ _ _ _ => ?_)
    · show (20 : Int) = chk (L s); unfold chk; rw [h]; rfl
    · show (0 : Int) = chk (L s); unfold chk; rw [h]; rfl
  exact ACalls.mono this fun v τ ⟨r, hv, hr⟩ => by rw [hv, hr]
theorem chk_zero {l : Str} : chk l = 0 ↔ ∃ ps, parts l = some ps := by
  unfold chk
  cases h : parts l with
  | none => simp
  | some ps => simp
theorem slash_iff {ps : List Str} (h : Good ps) : mk ps = [47] ↔ ps = [] :=
  ⟨fun e => Classical.byContradiction fun hn => mk_ne hn h.ok e, fun e => by rw [e]; rfl⟩
theorem li_mk {ps : List Str} {x : Str} (hx : 47 ∉ x) : li (mk (ps ++ [x])) (mk (ps ++ [x])).length = ((if ps = [] then [] else mk ps).length : Int) := by
  rw [mk_snoc]
  have := li_word (if ps = [] then [] else mk ps) x hx x.length (Nat.le_refl _)
  rw [show ((if ps = [] then [] else mk ps) ++ 47 :: x).length = (if ps = [] then [] else mk ps).length + 1 + x.length by simp; omega]
  exact this
theorem mk_pos (ps : List Str) : 1 ≤ (mk ps).length := by obtain ⟨r, h⟩ := mk_head ps; rw [h]; simp

/-- path.Parent: the path above, or the error 20 -/
def parent (l : Str) : Option Str := match parts l with | some ps => if ps = [] then none else some (mk ps.dropLast) | none => none
theorem parent_ok {s : ByteArray} {Q : ByteArray → Int → AH → Prop} (g : Glob ro) (hnone : parent (L s) = none → Q (⟨#[]⟩ : ByteArray) 20 σ) (hsome : ∀ u, parent (L s) = some u → Q (S u) 0 σ) : c_path_Parent B ro s σ Q := by
  refine path_Parent_ok fun hs => ?_
  unfold f_path_Parent
  by_cases h1 : s = ⟨#[47]⟩
  · rw [if_pos h1]
    unfold j1_path_Parent
    rw [if_pos rfl]
    refine hnone ?_
    subst h1; rfl
  · rw [if_neg h1]
    refine check_ok g ?_
    unfold j1_path_Parent
    by_cases h2 : chk (L s) = 0
    · rw [if_neg (by simpa using h2)]
      obtain ⟨ps, hps⟩ := chk_zero.1 h2
      obtain ⟨hl, hg⟩ := parts_iff.1 hps
      have hne : ps ≠ [] := fun e => h1 (L_inj (by rw [hl, e]; rfl))
      obtain ⟨qs, x, rfl⟩ : ∃ qs x, ps = qs ++ [x] := by
        rcases List.eq_nil_or_concat ps with e | ⟨qs, x, e⟩
        · exact absurd e hne
        · exact ⟨qs, x, by rw [e, List.concat_eq_append]⟩
      have hx : 47 ∉ x := name_no (hg.ok x (by simp))
      have hsz : s.size = (mk (qs ++ [x])).length := by rw [← L_len, hl]
      have h128 := hg.len
      refine last_ok (by omega) ?_
      rw [hl, hsz, li_mk hx]
      have hpar : parent (L s) = some (mk qs) := by unfold parent; rw [hps]; simp
      have hlen : (mk (qs ++ [x])).length = (if qs = [] then [] else mk qs).length + 1 + x.length := by rw [mk_snoc]; simp; omega
      have hmax : (if 1 < (((if qs = [] then [] else mk qs).length : Nat) : Int) then (((if qs = [] then [] else mk qs).length : Nat) : Int) else 1) = ((mk qs).length : Int) := by
        by_cases e : qs = []
        · subst e; rfl
        · rw [if_neg e]
          have := mk_pos qs
          split <;> omega
      rw [hmax]
      have hle : (mk qs).length ≤ (mk (qs ++ [x])).length := by
        rw [hlen]
        by_cases e : qs = []
        · subst e; simp [mk]
        · rw [if_neg e]; omega
      refine ⟨⟨⟨by omega, by omega⟩, trivial⟩, ?_⟩
      rw [Int.toNat_natCast]
      have hex : s.extract 0 (mk qs).length = S (mk qs) := by
        conv => lhs; rw [← S_L s]
        rw [S_extract, hl, List.drop_zero]
        congr 1
        rw [mk_snoc]
        by_cases e : qs = []
        · subst e; rfl
        · rw [if_neg e, List.take_left]
      rw [hex]
      exact hsome _ hpar
    · rw [if_pos (by simpa using h2)]
      refine hnone ?_
      unfold parent
      cases h : parts (L s) with
      | none => rfl
      | some ps => exact absurd (chk_zero.2 ⟨ps, h⟩) h2
/-- path.Base: the last name -/
def base (l : Str) : Option Str := match parts l with | some ps => ps.getLast? | none => none
end Go.Proofs.YthfpmipeejjogaaGreatDoor.Pa

/- The variables that the program's text lays, for the rows whose lists bear bytes.ErrTooLarge too. -/
namespace Go.Proofs.YthfpmipeejjogaaGreatDoor.Zt
open Go Go.Proofs.YthfpmipeejjogaaGreatDoor.SL Go.ChangeShapes Go.WideShapes Go.ChangeAt Go.RowKit
set_option linter.unusedVariables false

abbrev LAIDU : List (String × DataW Unit) := Rows.ztreeStillUptoRow.laid
theorem own : ownKnob Tryz.prog.godebug = none := by kernel_rfl
theorem laidOut : laidOutB Tryz.prog = true := by kernel_rfl
theorem var_sees {W w : World} (h : ∀ b o, all W b = some o → w.heap[b]? = some o) {n : String} {cs : Array Value} (hv : W.var? Tryz.prog n = some cs) : w.var? Tryz.prog n = some cs := by
  unfold World.var? at hv ⊢
  obtain ⟨g, hg, hx⟩ := Option.bind_eq_some_iff.1 hv
  rw [hg]
  show (match w.heap[g]? with | some (.cells cs _ _) => some cs | _ => none) = _
  cases hh : W.heap[g]? with
  | none => rw [hh] at hx; cases hx
  | some o => rw [h g o hh]; rw [hh] at hx; exact hx
theorem gPow : Tryz.prog.globalNamed "internal/strconv.uint64pow10" = some 2 := by kernel_rfl
theorem eTab : Tryz.prog.underlying 245 = some (.int .u64) := by kernel_rfl
theorem tPow : (Tryz.prog.globals[2]?).map (·.type) = some 275 := by kernel_rfl
theorem globU {W : World} (hsh : W.ShapedOpen Tryz.prog) (hL : laidMetH Tryz.prog LAIDU W) : Pa.Glob (all W) := by
  rw [MakeChecks.laidMetH_plain _ _ _ (by kernel_rfl)] at hL
  obtain ⟨ps, ⟨g0, t0, cs0, f0, p0, q0, hg0, ht0, hv0, hd0, ⟨g1, t1, cs1, f1, p1, q1, hg1, ht1, hv1, hd1, ⟨g2, t2, cs2, f2, p2, q2, hg2, ht2, hv2, hd2, _, _⟩, _⟩, _⟩, _, _⟩ := hL
  have htab : Lib.TabIs Tryz.prog W "internal/strconv.uint64pow10" .u64 Lib.pow10Tab := by
    obtain rfl := Option.some.inj (gPow.symm.trans hg2)
    obtain rfl := Option.some.inj (tPow.symm.trans ht2)
    unfold Lib.TabIs
    have hd2' : DataW.trod _ Tryz.prog W 0 _ false f2 275 cs2.toList = some (Lib.tabData .u64 Lib.pow10Tab, p2) := hd2
    rw [hv2, ← Lib.cells_of_tab Tryz.underlying275 eTab (by kernel_rfl) (by kernel_rfl) hd2']
  refine ⟨?_, fun w hw => var_sees hw htab⟩
  obtain ⟨m, hm⟩ := Tryz.laysM146.s1_3 W hsh
  have hm : W.cell? ⟨0, 0, none⟩ = some (.int .i64 m) := hm
  rw [cell?_eq] at hm
  cases hh : W.heap[0]? with
  | none => simp only at hm; rw [hh] at hm; cases hm
  | some o => simp only at hm; rw [hh] at hm; exact ⟨m, o, hh, hm⟩
theorem trod_lt' {H : Type} {enc : TypeId × Value → H} {W : World} {t : TypeId} {v : Value} {d : DataW H} {p : List MemPlace} (h : DataW.Trod enc Tryz.prog W 0 (fun _ => true) true t v d p) : ∀ x ∈ p, x.block < W.heap.size := by
  obtain ⟨m, hm⟩ := h; exact DataW.trod_lt m _ _ _ hm
end Go.Proofs.YthfpmipeejjogaaGreatDoor.Zt

/- A range over a function, first part: code within a round of such a loop, or behind it (deferred marks), by what it owns. Generic over any program. -/
namespace Go.Proofs.YthfpmipeejjogaaGreatDoor.SL
open Go

/-- A fence that lets all in: the wide one, or it within a round. -/
structure Open (F : Fence) : Prop where
  fn : ∀ f, F.fn f
  depth : F.depth = none
  calls : ∀ {P : Program} {n : Nat} {f : FuncId} {args : Array Value} {w : World} {R : Ending → World → Prop}, Calls P f args w R → CallsIn F n P f args w R
theorem Open.wide : Open Fence.wide := ⟨fun _ => trivial, rfl, fun h => callsIn_wide.2 h⟩
theorem Open.round (l : Nat) : Open (Fence.wide.inRound l) := ⟨fun _ => trivial, rfl, fun h => (callsIn_wide.2 h : CallsIn Fence.wide _ _ _ _ _ _)⟩

structure FitsD (N : Nat) (ds : List Deferred) (fr : Fr) (a : Act) : Prop where
  size : a.tmps.size = N
  defers : a.defers = ds
  has : ∀ i v, look fr i = some v → a.tmps[i]? = some v
theorem Fits.d {N : Nat} {fr : Fr} {a : Act} (h : Fits N fr a) : FitsD N [] fr a := ⟨h.size, h.defers, h.has⟩
theorem FitsD.agrees {N : Nat} {ds : List Deferred} {fr : Fr} {a : Act} (h : FitsD N ds fr a) : Agrees a.eval fr := by
  have h' : Fits N fr { a with defers := [] } := ⟨h.size, rfl, h.has⟩
  intro x v hx
  exact h'.agrees x v hx
theorem FitsD.put {N : Nat} {ds : List Deferred} {fr : Fr} {a : Act} (h : FitsD N ds fr a) {d : Option Tmp} (hd : dstOk N d = true) (v : Value) : FitsD N ds (putF d v fr) (a.put d v) := by
  have h' : Fits N fr { a with defers := [] } := ⟨h.size, rfl, h.has⟩
  have k := h'.put hd v
  cases d with
  | none => exact h
  | some d => exact ⟨k.size, h.defers, k.has⟩
theorem FitsD.weaken {N : Nat} {ds : List Deferred} {fr fr' : Fr} {a : Act} (h : FitsD N ds fr' a) (hl : FrLe fr fr') : FitsD N ds fr a := ⟨h.size, h.defers, fun i v e => h.has i v (hl i v e)⟩

def liftD (B : World) (ro : AH) (N : Nat) (ds : List Deferred) (φ : AH) (Q : Exit → Fr → AH → Prop) (e : Exit) (a : Act) (w : World) : Prop := ∃ fr σ, Q e fr σ ∧ Own B ro φ σ w ∧ FitsD N ds fr a

section
variable {F : Fence} {n : Nat} {P : Program} {B : World} {ro : AH} {N : Nat} {ds : List Deferred}

def noDefer (o : Oper) : Bool := match o.op with
  | .defer _ => false
  | _ => true
theorem AExec.soundIn {o : Oper} {K : Fr → AH → Prop} {fr : Fr} {σ φ : AH} {a : Act} {w : World} {next : Act → World → Prop} {Q : Exit → Act → World → Prop}
    (hF : Open F) (hnd : noDefer o = true) (h : AExec P B ro o K fr σ) (hd : dstOk N o.dst = true) (ho : Own B ro φ σ w) (hf : FitsD N ds fr a)
    (hk : ∀ fr σ a w, K fr σ → Own B ro φ σ w → FitsD N ds fr a → next a w) : o.wpIn F n P a w next Q := by
  obtain ⟨x, w', σ', hr, hq, ho'⟩ := awp_sound _ (h _ hf.agrees) ho
  refine ⟨fun f _ => hF.fn f, ?_⟩
  rw [Oper.semAt_eq _ _ _ (fun c e => by unfold noDefer at hnd; rw [e] at hnd; cases hnd), hr]
  cases x with
  | value v => exact hk _ _ _ _ hq ho' (hf.put hd v)
  | skip => exact hk _ _ _ _ hq ho' (hf.put hd undef)
  | enter f args =>
    refine ⟨fun e => (by rw [hF.depth] at e; cases e), hF.calls ?_⟩
    refine (hq φ w' ho').mono ?_
    rintro e w2 ⟨v, σ2, rfl, hq2, ho2⟩
    exact hk _ _ _ _ hq2 ho2 (hf.put hd v)
  | _ => exact hq.elim

theorem yielded_eqD {fr : Fr} {a : Act} (hf : FitsD N ds fr a) {ops : Array Oper} {j t : Nat} {v : Value} (ht : (ops[j]?).bind (·.dst) = some t) (hl : look fr t = some v) :
    yielded ops a.tmps j = match v with | .bool b => some b | _ => none :=
  yielded_eq (N := N) (a := { a with defers := [] }) ⟨hf.size, rfl, hf.has⟩ ht hl

theorem AOps.soundIn (hF : Open F) {ops : Array Oper} {Q : Exit → Fr → AH → Prop} {φ : AH} (hnd : ∀ (i : Nat) (o : Oper), ops[i]? = some o → noDefer o = true) (l : List Nat) : ∀ {fr : Fr} {σ : AH} {a : Act} {w : World},
    AOps P B ro N ops (Q .normal) l fr σ → Own B ro φ σ w → FitsD N ds fr a → wpOpsIn F n P ops (liftD B ro N ds φ Q) l a w := by
  induction l with
  | nil => intro fr σ a w h ho hf; exact ⟨fr, σ, h, ho, hf⟩
  | cons i rest ih =>
    intro fr σ a w h ho hf
    simp only [AOps] at h
    simp only [wpOpsIn]
    cases hi : ops[i]? with
    | none => rw [hi] at h; exact ih h ho hf
    | some o =>
      rw [hi] at h
      obtain ⟨hd, h⟩ := h
      dsimp only
      cases hg : o.guard with
      | none =>
        rw [hg] at h
        have hw : Region.wanted o (yielded ops a.tmps) = true := by simp [Region.wanted, hg]
        rw [if_pos hw]
        exact AExec.soundIn hF (hnd i o hi) h hd ho hf fun fr σ a w hk ho hf => ih hk ho hf
      | some g =>
        obtain ⟨j, want⟩ := g
        rw [hg] at h
        obtain ⟨t, v, ht, hl, h⟩ := h
        have hy := yielded_eqD hf ht hl
        rcases h with ⟨rfl, h⟩ | ⟨hv, h⟩
        · have hw : Region.wanted o (yielded ops a.tmps) = true := by simp [Region.wanted, hg, hy]
          rw [if_pos hw]
          exact AExec.soundIn hF (hnd i o hi) h hd ho hf fun fr σ a w hk ho hf => ih hk ho hf
        · have hw : ¬ Region.wanted o (yielded ops a.tmps) = true := by
            simp only [Region.wanted, hg, hy]
            cases v <;> simp
            rename_i b; intro e; subst e; exact hv rfl
          rw [if_neg hw]
          exact ⟨fun f _ => hF.fn f, ih h ho (hf.put hd undef)⟩
end

/-! ### Code within a round, or behind the loop -/
def AWF (F : Fence) (n : Nat) (ds : List Deferred) (P : Program) (B : World) (ro : AH) (N : Nat) (c : Code) (Q : Exit → Fr → AH → Prop) (fr : Fr) (σ : AH) : Prop :=
  ∀ φ w a, Own B ro φ σ w → FitsD N ds fr a → c.wpIn F n P (liftD B ro N ds φ Q) a w
section
variable {F : Fence} {n : Nat} {ds : List Deferred} {P : Program} {B : World} {ro : AH} {N : Nat} {Q : Exit → Fr → AH → Prop} {fr : Fr} {σ : AH}
theorem AWF.skip (h : Q .normal fr σ) : AWF F n ds P B ro N .skip Q fr σ := fun _ _ _ ho hf => wpIn_skip ⟨fr, σ, h, ho, hf⟩
theorem AWF.ret (h : Q .ret fr σ) : AWF F n ds P B ro N .ret Q fr σ := fun _ _ _ ho hf => wpIn_ret ⟨fr, σ, h, ho, hf⟩
theorem AWF.exit {id : Nat} (h : Q (.exit id) fr σ) : AWF F n ds P B ro N (.exit id) Q fr σ := fun _ _ _ ho hf => wpIn_exit ⟨fr, σ, h, ho, hf⟩
theorem AWF.seq {x y : Code} (h : AWF F n ds P B ro N x (thenQ (AWF F n ds P B ro N y Q) Q) fr σ) : AWF F n ds P B ro N (.seq x y) Q fr σ := by
  intro φ w a ho hf
  refine wpIn_seq (wpIn_mono (h φ w a ho hf) ?_)
  rintro e a' w' ⟨fr', σ', hq, ho', hf'⟩
  cases e with
  | normal => exact hq φ w' a' ho' hf'
  | _ => exact ⟨fr', σ', hq, ho', hf'⟩
theorem AWF.cond {c : Operand} {x y : Code} {b : Bool} (hc : evalF fr c = some (.bool b)) (ht : b = true → AWF F n ds P B ro N x Q fr σ) (hn : b = false → AWF F n ds P B ro N y Q fr σ) : AWF F n ds P B ro N (.cond c x y) Q fr σ :=
  fun φ w a ho hf => wpIn_cond_split (hf.agrees _ _ hc) (fun e => ht e φ w a ho hf) (fun e => hn e φ w a ho hf)
theorem AWF.block {id : Nat} {c : Code} (h : AWF F n ds P B ro N c (blockQ id Q) fr σ) : AWF F n ds P B ro N (.block id c) Q fr σ := by
  intro φ w a ho hf
  refine wpIn_block (wpIn_mono (h φ w a ho hf) ?_)
  rintro e a' w' ⟨fr', σ', hq, ho', hf'⟩
  cases e with
  | exit id' =>
    simp only [blockQ] at hq
    simp only [Exit.inBlock]
    split
    · rename_i e; rw [if_pos e] at hq; exact ⟨fr', σ', hq, ho', hf'⟩
    · rename_i e; rw [if_neg e] at hq; exact ⟨fr', σ', hq, ho', hf'⟩
  | _ => exact ⟨fr', σ', hq, ho', hf'⟩
theorem AWF.reg (hF : Open F) {id : Nat} {ops : Array Oper} (hnd : ops.toList.all noDefer = true) (h : AOpsL P B ro N ops (wk (Q .normal)) ops.toList fr σ) : AWF F n ds P B ro N (.region id ops false) Q fr σ := by
  intro φ w a ho hf
  have h1 : AOps P B ro N ops ((fun e => wk (Q e)) .normal) (List.range ops.size) fr σ := by
    rw [List.range_eq_range']
    exact AOps_of_L ops.size 0 (by omega) h
  refine wpIn_mono (wpIn_region (AOps.soundIn hF (Q := fun e => wk (Q e)) (fun i o hi => ?_) _ h1 ho hf)) ?_
  · have := List.all_eq_true.1 hnd o (by
      rw [Array.getElem?_eq_some_iff] at hi
      obtain ⟨hlt, rfl⟩ := hi
      simp)
    exact this
  · rintro e a' w' ⟨fr', σ', ⟨fr0, h1, h2⟩, h3, h4⟩
    exact ⟨fr0, σ', h2, h3, h4.weaken h1⟩
theorem AWF.weaken {c : Code} {fr' : Fr} {σ' : AH} (h : AWF F n ds P B ro N c Q fr' σ') (hf : FrLe fr' fr) (hl : HLe σ' σ) : AWF F n ds P B ro N c Q fr σ :=
  fun φ w a ho ha => h φ w a (ho.drop hl) (ha.weaken hf)
theorem AWF.mono {c : Code} {Q' : Exit → Fr → AH → Prop} (h : AWF F n ds P B ro N c Q fr σ) (hq : ∀ e fr σ, Q e fr σ → Q' e fr σ) : AWF F n ds P B ro N c Q' fr σ :=
  fun φ w a ho ha => wpIn_mono (h φ w a ho ha) fun _ _ _ ⟨fr, σ, h1, h2, h3⟩ => ⟨fr, σ, hq _ _ _ h1, h2, h3⟩
end
end Go.Proofs.YthfpmipeejjogaaGreatDoor.SL

/- A range over a function, second part: the loop itself, and a function that holds one. Generic over any program. -/
namespace Go.Proofs.YthfpmipeejjogaaGreatDoor.SL
open Go

section
variable {n : Nat} {P : Program} {B : World} {ro φ σ : AH} {N : Nat}

theorem Own.keepBlocks {w w' : World} (h : Own B ro φ σ w) (ho : w'.os = w.os) (ht : w'.tape = w.tape) (hp : w'.output = w.output)
    (hs : ∀ b o, σ b = some o → w'.heap[b]? = w.heap[b]?) (hf : ∀ b o, φ b = some o → w'.heap[b]? = w.heap[b]?) (hr : ∀ b o, ro b = some o → w'.heap[b]? = w.heap[b]?) : Own B ro φ σ w' :=
  ⟨ho.trans h.os, ht.trans h.tape, hp.trans h.output, fun b o e => by obtain ⟨h1, h2, h3⟩ := h.own b o e; exact ⟨(hs b o e).trans h1, h2, h3⟩,
    fun b o e => (hf b o e).trans (h.fr b o e), fun b o e => (hr b o e).trans (h.ro b o e)⟩

/-- All that is not owned is framed. -/
def allBut (w : World) (σ : AH) : AH := fun b => match σ b with
  | some _ => none
  | none => w.heap[b]?
theorem Own.all {w : World} (h : Own B ro φ σ w) : Own B ro (allBut w σ) σ w := by
  refine ⟨h.os, h.tape, h.output, fun b o e => ?_, fun b o e => ?_, h.ro⟩
  · obtain ⟨h1, _, h3⟩ := h.own b o e
    exact ⟨h1, by simp [allBut, e], h3⟩
  · unfold allBut at e
    split at e
    · cases e
    · exact e
theorem Own.unall {w w' : World} {σ' : AH} (h : Own B ro φ σ w) (k : Own B ro (allBut w σ) σ' w') : Own B ro φ σ' w' := by
  have hb : ∀ b o, φ b = some o → allBut w σ b = some o := fun b o e => by
    unfold allBut
    cases hs : σ b with
    | some x => have := (h.own b x hs).2.1; rw [e] at this; cases this
    | none => exact h.fr b o e
  refine ⟨k.os, k.tape, k.output, fun b o e => ?_, fun b o e => k.fr b o (hb b o e), k.ro⟩
  obtain ⟨h1, h2, h3⟩ := k.own b o e
  refine ⟨h1, ?_, h3⟩
  cases hp : φ b with
  | none => rfl
  | some x => rw [hb b x hp] at h2; cases h2

/-- A round: from what is owned to what is owned behind it; nothing that was there is let go in between; what is kept behind it is less. -/
structure Round (σ0 : AH) (ks : List Nat) (J : AH → Prop) (σ : AH) (e : Exit) (σ' : AH) : Prop where
  norm : e = .normal
  old : ∀ b o, σ b = some o → ∃ o', σ' b = some o'
  go : ∃ σ'', HLe σ'' σ' ∧ J σ''

theorem wp_rangeFunc {α : Type} {g : Operand} {ps : Array Tmp} {d : Tmp} {src ty : Nat} {pos : String} {rid : Nat} {body : Code} {Q : Exit → Act → World → Prop} {a : Act} {w : World} {fr : Fr}
    (hn : 3 ≤ n) {gf Bs : Nat} (eg : ∀ args w, (callFunc gf args).run P w = .ok (.enter gf args) w)
    {encs : α → Array Value} {S Sp : List α → Prop} {M : Nat} (ks : List Nat)
    (hg : evalF fr g = some (.func (.func gf) #[] #[.pointer (some ⟨Bs, 0, none⟩)]))
    (hseq : SeqStopsK Fence.wide (n - 1) P gf #[.pointer (some ⟨Bs, 0, none⟩)] encs (fun W W' => ∀ k ∈ ks, W'.heap[k]? = W.heap[k]?) S Sp M w)
    (hps : ∀ x, (encs x).size = ps.size) (ho : Own B ro φ σ w) (hf : Fits N fr a)
    (J : List α → AH → Prop) (h0 : J [] σ)
    (hcell : ∀ pre σ', J pre σ' → ∀ b o, σ' b = some o → Obj.isCells o = false → ∃ o', σ b = some o')
    (hkeep : ∀ pre σ', J pre σ' → ∀ k ∈ ks, ∃ o, σ k = some o ∧ σ' k = some o)
    (fr1 : α → Fr)
    (hfr : ∀ x, FitsD N [] (fr1 x) (Act.mk (((ps.zip (encs x)).foldl (fun t (p, v) => t.setIfInBounds p v) a.tmps).setIfInBounds d (((ps.zip (encs x)).foldl (fun t (p, v) => t.setIfInBounds p v) a.tmps).getD src undef)) []))
    (hbody : ∀ (l : Nat) (pre : List α) (x : α) (σ1 : AH), J pre σ1 → pre.length < M →
      AWF (Fence.wide.inRound l) (n - 1 - 1) [] P B ro N body (fun e _ σ2 => Round σ ks (J (pre ++ [x])) σ1 e σ2) (fr1 x) σ1)
    (hdone : ∀ (D : Nat) (xs : List α) (W : World) (σ' : AH), φ D = none → ro D = none → S xs → J xs σ' → Own B ro (upd φ D (.deferred (some []))) σ' W →
      Q .normal { a with defers := { target := .collected D, args := #[] } :: a.defers } W) :
    (Code.rangeFunc g ps (.region rid #[{ dst := some d, op := .assign (.tmp src), type := ty, pos := pos, after := #[], guard := none }] false) body).wpIn Fence.wide n P Q a w := by
  refine wpIn_rangeFunc_ownG (S := S) (Sp := Sp) (N := M) (w0 := w) (encs := encs) rfl (by omega) (hf.agrees _ _ hg) trivial eg hseq
    (fun h1 h2 k hk => (h2 k hk).trans (h1 k hk)) ?hKb (Go.RowKit.Below.refl _ _) hps
    (fun pre W => ∃ σ', Own B ro φ σ' W ∧ J pre σ') (fun _ _ _ => False) ?hI (fun _ _ _ _ _ h => h.elim) ⟨σ, ho, h0⟩
    (fun x => Act.mk (((ps.zip (encs x)).foldl (fun t (p, v) => t.setIfInBounds p v) a.tmps).setIfInBounds d (((ps.zip (encs x)).foldl (fun t (p, v) => t.setIfInBounds p v) a.tmps).getD src undef)) []) ?hassign ?hbody ?hdone ?hstop
  case hKb =>
    intro W l o o' hl hWl _ _ k hk
    obtain ⟨x, hx, _⟩ := hkeep [] σ h0 k hk
    have := ho.lt hx
    exact World.putObj_heap_other (by omega)
  case hI =>
    rintro pre W W' row ⟨σ', hO, hJ⟩ hg hr
    have old : ∀ b o, W.heap[b]? = some o → (o.isCells = false → b < w.heap.size) → W'.heap[b]? = W.heap[b]? := fun b o hb hc => by
      refine hg.block b (lt_of_block hb) fun e => ?_
      obtain ⟨h1, o2, h2, h3⟩ := hr b e.symm
      rw [hb] at h2; cases h2
      have := hc h3; omega
    refine ⟨σ', hO.keepBlocks hg.os hg.tape hg.output (fun b o e => ?_) (fun b o e => ?_) (fun b o e => ?_), hJ⟩
    · refine old b o (hO.own b o e).1 fun hc => ?_
      obtain ⟨o', h'⟩ := hcell pre σ' hJ b o e hc
      exact ho.lt h'
    · exact old b o (hO.fr b o e) fun _ => lt_of_block (ho.fr b o e)
    · exact old b o (hO.ro b o e) fun _ => lt_of_block (ho.ro b o e)
  case hassign =>
    intro l x W K hK
    refine wpIn_region ?_
    show wpOpsIn _ _ _ _ _ (List.range 1) _ _
    simp only [List.range_succ, List.range_zero, List.nil_append, wpOpsIn]
    simp only [List.getElem?_toArray, List.getElem?_cons_zero, Region.wanted]
    refine ⟨fun _ _ => trivial, ?_⟩
    rw [Oper.semAt_eq _ _ _ (fun c e => by cases e)]
    exact hK
  case hbody =>
    rintro l pre x W ⟨σ1, hO, hJ⟩ hlen
    refine wpIn_mono (hbody l pre x σ1 hJ hlen (allBut W σ1) W _ hO.all (hfr x)) ?_
    rintro e a' W' ⟨fr', σ2, ⟨hn, hold, σ3, hle, hJ3⟩, hO2, _⟩
    subst hn
    have hO2' := hO.unall hO2
    have blk : ∀ (k : Nat) (o : Obj), W.heap[k]? = some o → σ1 k = none → W'.heap[k]? = some o := fun k o hk hs => hO2.fr k o (by unfold allBut; rw [hs]; exact hk)
    refine ⟨⟨?_, ?_⟩, ?_, σ3, hO2'.drop hle, hJ3⟩
    · rcases Nat.eq_zero_or_pos W.heap.size with h | h
      · omega
      · have hl : W.heap.size - 1 < W.heap.size := by omega
        have hx : W.heap[W.heap.size - 1]? = some W.heap[W.heap.size - 1] := Array.getElem?_eq_getElem hl
        have : ∃ o, W'.heap[W.heap.size - 1]? = some o := by
          cases hs : σ1 (W.heap.size - 1) with
          | none => exact ⟨_, blk _ _ hx hs⟩
          | some o => obtain ⟨o', h'⟩ := hold _ o hs; exact ⟨o', (hO2.own _ _ h').1⟩
        obtain ⟨o, h'⟩ := this
        have := lt_of_block h'; omega
    · intro k o hk ho' hc
      refine blk k o ho' ?_
      cases hs : σ1 k with
      | none => rfl
      | some o2 =>
        have := (hO.own k o2 hs).1
        rw [ho'] at this; cases this
        obtain ⟨o3, h3⟩ := hcell pre σ1 hJ k o hs hc
        have := ho.lt h3; omega
    · intro k hk
      obtain ⟨o, h1, h2⟩ := hkeep _ _ hJ k hk
      obtain ⟨o', h3, h4⟩ := hkeep _ _ hJ3 k hk
      rw [h1] at h3; cases h3
      rw [(hO.own k o h2).1, (hO2'.own k o (hle k o h4)).1]
  case hdone =>
    rintro D xs W hD hS ⟨σ', hO, hJ⟩ hW
    have nD : σ' D = none := by
      cases hs : σ' D with
      | none => rfl
      | some o =>
        have := (hO.own D o hs).1
        rw [hW] at this; cases this
        obtain ⟨o', h'⟩ := hcell xs σ' hJ D _ hs rfl
        have := ho.lt h'; omega
    have fD : φ D = none := by
      cases hs : φ D with
      | none => rfl
      | some o => have := lt_of_block (ho.fr D o hs); omega
    have rD : ro D = none := by
      cases hs : ro D with
      | none => rfl
      | some o => have := lt_of_block (ho.ro D o hs); omega
    refine hdone D xs W σ' fD rD hS hJ ⟨hO.os, hO.tape, hO.output, fun b o e => ?_, fun b o e => ?_, hO.ro⟩
    · obtain ⟨h1, h2, h3⟩ := hO.own b o e
      refine ⟨h1, ?_, h3⟩
      unfold upd
      rw [if_neg (fun h => by subst h; rw [nD] at e; cases e)]
      exact h2
    · unfold upd at e
      split at e
      · rename_i h; subst h; cases e; exact hW
      · exact hO.fr b o e
  case hstop =>
    rintro D c pre W _ _ h _
    exact h.elim

/-- The function leaves, with the loop's mark among its deferred calls. -/
theorem bodyM_of {fn : Func} {Q : Value → AH → Prop} {a : Act} {w : World} {fr : Fr} {D : Nat} (hf : FitsD N [{ target := .collected D, args := #[] }] fr a) (fD : φ D = none) (rD : ro D = none)
    (ho : Own B ro (upd φ D (.deferred (some []))) σ w)
    (h : ∃ v, (∀ tmps : Array Value, (∀ i u, look fr i = some u → tmps[i]? = some u) → aread P ro (results fn tmps) σ = some v) ∧ Q v σ) :
    bodyPostM Fence.wide n P fn (fun e w' => ∃ v σ', e = .returned v ∧ Q v σ' ∧ Own B ro φ σ' w') .ret a w := by
  obtain ⟨v, hr, hq⟩ := h
  have hD : w.heap[D]? = some (.deferred (some [])) := ho.fr D _ (by simp [upd])
  have hO : Own B ro φ σ (w.putObj D (.deferred none)) := by
    refine ⟨ho.os, ho.tape, ho.output, fun b o e => ?_, fun b o e => ?_, fun b o e => ?_⟩
    · obtain ⟨h1, h2, h3⟩ := ho.own b o e
      have hne : b ≠ D := fun h => by subst h; simp [upd] at h2
      exact ⟨(World.putObj_heap_other hne).trans h1, by unfold upd at h2; rw [if_neg hne] at h2; exact h2, h3⟩
    · have hne : b ≠ D := fun h => by subst h; rw [fD] at e; cases e
      exact (World.putObj_heap_other hne).trans (ho.fr b o (by unfold upd; rw [if_neg hne]; exact e))
    · have hne : b ≠ D := fun h => by subst h; rw [rD] at e; cases e
      exact (World.putObj_heap_other hne).trans (ho.ro b o e)
  show LeavesInM _ _ _ _ _ _ a.defers _ _
  rw [hf.defers]
  refine ⟨by simp, .inl ⟨D, _, rfl, run_takeDeferred hD, ?_⟩⟩
  exact ⟨v, aread_sound _ (hr _ hf.has) hO, v, σ, rfl, hq, hO⟩

theorem ACalls.of_marks {f : FuncId} {fn : Func} {c : Code} {args : List Value} {Q : Value → AH → Prop} (hf : P.funcs[f]? = some fn) (hb : fn.body = some c)
    (hn : args.length ≤ fn.ntmps) (h : ∀ φ w a, Own B ro φ σ w → Fits fn.ntmps (initFr args 0) a → c.wpIn Fence.wide n P (bodyPostM Fence.wide n P fn (fun e w' => ∃ v σ', e = .returned v ∧ Q v σ' ∧ Own B ro φ σ' w')) a w) :
    ACalls P B ro f args.toArray σ Q := by
  intro φ w ho
  refine (callsIn_wide (n := n)).1 ?_
  refine callsIn_of_wp_marks hf hb trivial ?_ rfl
  refine h φ w _ ho ⟨by simp; omega, rfl, ?_⟩
  intro i v hi
  obtain ⟨_, h2⟩ := look_initFr args 0 i v hi
  simp only [Nat.sub_zero] at h2
  have hlt : i < args.length := by
    rcases Nat.lt_or_ge i args.length with h' | h'
    · exact h'
    · rw [List.getElem?_eq_none h'] at h2; cases h2
  simp [Array.getElem?_append, hlt]
  simpa [List.getElem?_eq_getElem hlt] using h2
end
end Go.Proofs.YthfpmipeejjogaaGreatDoor.SL

/- slices.Backward over strings: the closure's contract (after the guide's worked example on slices.All). -/
namespace Go.Proofs.YthfpmipeejjogaaGreatDoor.Back
open Go Go.RowKit Go.Shelf

attribute [local go_sem] Oper.semAt_some

/-- What has come when k rounds are over. -/
def upto {α : Type} (f : Nat → α) (k : Nat) : List α := (List.range k).map f
theorem upto_succ {α : Type} (f : Nat → α) (k : Nat) : upto f (k + 1) = upto f k ++ [f k] := by simp [upto, List.range_succ]
theorem upto_length {α : Type} (f : Nat → α) (k : Nat) : (upto f k).length = k := by simp [upto]
/-- The k-th of a row that is gone through backward. -/
def bk (zs : List ByteArray) (k : Nat) : Int × ByteArray := ((zs.length : Int) - 1 - k, (zs[zs.length - 1 - k]?).getD ByteArray.empty)
def Kp (ks : List Nat) (W W' : World) : Prop := ∀ k ∈ ks, W'.heap[k]? = W.heap[k]?
theorem Kp.refl (ks : List Nat) (W : World) : Kp ks W W := fun _ _ => rfl
theorem Kp.trans {ks : List Nat} {A B C : World} (h : Kp ks A B) (h' : Kp ks B C) : Kp ks A C := fun k hk => (h' k hk).trans (h k hk)
theorem Kp.cell {ks : List Nat} {A B : World} (h : Kp ks A B) {p : Addr} (hp : p.block ∈ ks) : B.cell? p = A.cell? p := World.cell?_of_block (h _ hp)

set_option maxRecDepth 100000 in
set_option maxHeartbeats 2000000 in
theorem back1 (n : Nat) (hn : 1 ≤ n) (l Bs b off cap : Nat) (zs : List ByteArray) (hreach : zs.length * 8 ≤ 140737488351232) (J Jx : List (Int × ByteArray) → World → Prop)
    (hY : ∀ pre x W, J pre W → pre.length < zs.length → YieldAt Fence.wide (n - 1) Tryz.prog l #[.int .i64 x.1, .string x.2] W fun e W' =>
      (e = .returned (.bool true) ∧ J (pre ++ [x]) W' ∧ Kp [Bs, b] W W') ∨ (e = .returned (.bool false) ∧ Jx (pre ++ [x]) W'))
    (W : World) (hBs : W.cell? ⟨Bs, 0, none⟩ = some (.slice (some ⟨b, off, none⟩) zs.length cap)) (hc : ∀ j, j < zs.length → W.cell? ⟨b, off + j, none⟩ = some (.string ((zs[j]?).getD ByteArray.empty))) (h0 : J [] W) :
    CallsIn Fence.wide n Tryz.prog 126 #[.func (.yield l) #[] #[], .pointer (some ⟨Bs, 0, none⟩)] W fun e W' => (∃ v, e = .returned v) ∧
      ((∃ ys, ys = upto (bk zs) zs.length ∧ J ys W') ∨ (∃ pre, (∃ k, k ≤ zs.length ∧ pre = upto (bk zs) k) ∧ Jx pre W')) := by
  refine callsIn_of_wp Tryz.func126 rfl trivial ?_ rfl
  simp only [Tryz.ntmps126, List.size_toArray, List.length_cons, List.length_nil, Nat.reduceAdd, Nat.reduceSub, Array.replicate_succ, Array.replicate_zero, List.push_toArray, List.append_toArray, List.nil_append, List.cons_append]
  gi_wp2
  gi_loopw [3] (fun i wr => ∃ k : Nat, k ≤ zs.length ∧ i = .int .i64 ((zs.length : Int) - 1 - k) ∧ J (upto (bk zs) k) wr ∧ Kp [Bs, b] W wr)
    (fun i _ => (intOf i + 1).toNat)
  case atStart => exact ⟨0, Nat.zero_le _, by simp, h0, Kp.refl _ _⟩
  case round =>
    obtain ⟨k, hk, rfl, hJs, hnx⟩ := hrel
    have hB' : wr.cell? ⟨Bs, 0, none⟩ = some (.slice (some ⟨b, off, none⟩) zs.length cap) := (hnx.cell (p := ⟨Bs, 0, none⟩) (by simp)).trans hBs
    by_cases hlt : k < zs.length
    · have hcx : wr.cell? ⟨b, off + (zs.length - 1 - k), none⟩ = some (.string ((zs[zs.length - 1 - k]?).getD ByteArray.empty)) := (hnx.cell (p := ⟨b, off + (zs.length - 1 - k), none⟩) (by simp)).trans (hc _ (by omega))
      obtain ⟨fn, tmps, assign, body, hy, hR⟩ := hY _ (bk zs k) wr hJs (by rw [upto_length]; exact hlt)
      dsimp only [bk] at hy
      have e1 : ((zs.length : Int) - 1 - k).toNat = zs.length - 1 - k := by omega
      gi_wp2
      refine hR.mono ?_
      rintro e W3 (⟨rfl, hJ3, hk3⟩ | ⟨rfl, hJx3⟩)
      · gi_wp2
        go_roundw
        case rel => exact ⟨k + 1, by omega, by simp; omega, by rw [upto_succ]; exact hJ3, hnx.trans hk3⟩
        case measure => simp [intOf]; omega
      · gi_wp2
        refine bodyPost_ret (results_none rfl _ _ _) rfl ?_
        exact ⟨⟨_, rfl⟩, .inr ⟨_, ⟨k + 1, by omega, (upto_succ _ _).symm⟩, hJx3⟩⟩
    · obtain rfl : k = zs.length := by omega
      gi_wp2
      go_end0
      exact ⟨⟨_, rfl⟩, .inl ⟨_, rfl, hJs⟩⟩

set_option maxRecDepth 100000 in
set_option maxHeartbeats 1000000 in
theorem back1_nil (n l Bs : Nat) (J : List (Int × ByteArray) → World → Prop) (W : World) (hBs : W.cell? ⟨Bs, 0, none⟩ = some (.slice none 0 0)) (h0 : J [] W) :
    CallsIn Fence.wide n Tryz.prog 126 #[.func (.yield l) #[] #[], .pointer (some ⟨Bs, 0, none⟩)] W fun e W' => (∃ v, e = .returned v) ∧ J [] W' := by
  refine callsIn_of_wp Tryz.func126 rfl trivial ?_ rfl
  simp only [Tryz.ntmps126, List.size_toArray, List.length_cons, List.length_nil, Nat.reduceAdd, Nat.reduceSub, Array.replicate_succ, Array.replicate_zero, List.push_toArray, List.append_toArray, List.nil_append, List.cons_append]
  gi_wp2
  gi_loopw [3] (fun i wr => i = .int .i64 (-1) ∧ J [] wr) (fun _ _ => 0)
  case atStart => exact ⟨rfl, h0⟩
  case round =>
    obtain ⟨rfl, hJs⟩ := hrel
    gi_wp2
    go_end0
    exact ⟨⟨_, rfl⟩, hJs⟩

/-- **What slices.Backward hands back goes through the row from its end.** -/
theorem stops (n : Nat) (hn : 1 ≤ n) (Bs : Nat) (s : SL.Sl) (zs : List ByteArray) (ks : List Nat) (hreach : zs.length * 8 ≤ 140737488351232) (w : World)
    (hBs : w.cell? ⟨Bs, 0, none⟩ = some s.v) (hBl : Bs < w.heap.size) (hkB : Bs ∈ ks)
    (hI : (s = ⟨none, 0, 0⟩ ∧ zs = []) ∨ ∃ b cap, s = ⟨some ⟨b, 0, none⟩, zs.length, cap⟩ ∧ b < w.heap.size ∧ b ∈ ks ∧ ∀ j, j < zs.length → w.cell? ⟨b, j, none⟩ = some (.string ((zs[j]?).getD ByteArray.empty))) :
    SeqStopsK Fence.wide n Tryz.prog 126 #[.pointer (some ⟨Bs, 0, none⟩)] (fun x : Int × ByteArray => #[Value.int .i64 x.1, .string x.2]) (Kp ks) (fun ys => ys = upto (bk zs) zs.length) (fun _ => True) zs.length w := by
  intro l J Jx W hW _ _ hY h0
  have hc' := (hW.cell (p := ⟨Bs, 0, none⟩) hBl).trans hBs
  rcases hI with ⟨rfl, rfl⟩ | ⟨b, cap, rfl, hb, hkb, hcs⟩
  · exact (back1_nil n l Bs J W hc' h0).mono fun e W' ⟨he, hj⟩ => ⟨he, .inl ⟨_, rfl, hj⟩⟩
  · refine (back1 n hn l Bs b 0 cap zs hreach J Jx (fun pre x W hJ hl => ?_) W hc' (fun j hj => ?_) h0).mono ?_
    · obtain ⟨fn, tmps, assign, body, hy, hR⟩ := hY pre x W hJ hl
      refine ⟨fn, tmps, assign, body, hy, hR.mono ?_⟩
      rintro e W' (⟨h1, h2, h3⟩ | h)
      · refine .inl ⟨h1, h2, fun k hk => h3 k ?_⟩
        simp at hk
        rcases hk with rfl | rfl <;> assumption
      · exact .inr h
    · rw [Nat.zero_add]
      exact (hW.cell (p := ⟨b, j, none⟩) hb).trans (hcs j hj)
    · rintro e W' ⟨he, ⟨ys, h1, h2⟩ | ⟨pre, _, h2⟩⟩
      · exact ⟨he, .inl ⟨ys, h1, h2⟩⟩
      · exact ⟨he, .inr ⟨pre, trivial, h2⟩⟩
end Go.Proofs.YthfpmipeejjogaaGreatDoor.Back
