/- Paths, the walk, on: Parts, Check, Parent, Base, Under. -/
import Derived.Test.YthfpmipeejjogaaGreatDoorPaB
namespace Go.Proofs.YthfpmipeejjogaaGreatDoor.Pa
open Go Go.Proofs.YthfpmipeejjogaaGreatDoor.SL Go.Proofs.YthfpmipeejjogaaGreatDoor.G Go.RowKit
set_option linter.unusedSimpArgs false
set_option linter.unusedVariables false
/-- what the laws read of package variables -/
structure Glob (ro : AH) : Prop where
  maxlen : ∃ m o, ro 0 = some o ∧ cellOf ⟨0, 0, none⟩ (some o) = some (.int .i64 m)
  tab : ∀ w : World, (∀ b o, ro b = some o → w.heap[b]? = some o) → Lib.TabIs Tryz.prog w "internal/strconv.uint64pow10" .u64 Lib.pow10Tab
variable {B : World} {ro σ σ' : AH} {tag tag' : Nat → Nat}

theorem sees_ro {w : World} (h : Sees ro σ w) : ∀ b o, ro b = some o → w.heap[b]? = some o := fun b o hb => h b o (by unfold rd; rw [hb])
abbrev vS (l : Str) : Value := .string (S l)

theorem split_ok {s : ByteArray} {Q : Sl → AH → Prop} (r : Nat) (g : Glob ro) (hs : s.size < 4294967281) (hQ : ∀ sl tag' σ', (∀ R, Step R ro tag σ tag' σ') → Row tag' σ' r 9 sl ((cut (L s)).map vS) → Q sl σ') :
    c_strings_Split B ro s (⟨#[47]⟩ : ByteArray) σ Q := by
  refine ACalls.of_calls fun w hw hsep => ?_
  obtain ⟨m, o, h0, h1⟩ := g.maxlen
  have hm : w.cell? ⟨0, 0, none⟩ = some (.int .i64 m) := by rw [cell?_eq, sees_ro hw 0 o h0]; exact h1
  refine (Tryz.strings_Split s (S [47]) m w hs hm (by decide)).mono ?_
  rintro e w' ⟨he, rfl⟩
  have hmap : (Lib.splitB (S [47]) 0 (Lib.countB s (S [47])) s).map Value.string = (cut (L s)).map vS := by
    rw [← split_cut, List.map_map]
    refine List.map_congr_left fun x _ => ?_
    simp [vS]
  have hlen : (cut (L s)).length = Lib.countB s (S [47]) + 1 := by
    have := Lib.splitB_all (S [47]) (by decide) 0 _ s rfl
    rw [← split_cut, List.length_map, this]
  obtain ⟨N, tag', hN, hst, hrow⟩ := new_row (tag := tag) (w' := w.alloc (.cells ((Lib.splitB (S [47]) 0 (Lib.countB s (S [47])) s).map Value.string).toArray 9)) r hw hsep (Nat.le_refl w.heap.size) (heap_alloc_new w _)
  refine ⟨_, N, he, (Below.refl _ w).alloc (Nat.le_refl _) _, hN, ⟨some ⟨w.heap.size, 0, none⟩, Lib.countB s (S [47]) + 1, Lib.countB s (S [47]) + 1⟩, rfl, ?_⟩
  refine hQ _ tag' _ hst (hrow _ _ _ ?_ ?_ (Nat.le_refl _) ?_)
  · rw [List.length_map, hlen]
  · rw [hmap]; simp [hlen]
  · rw [hmap]; simp only [List.toList_toArray]
    rw [List.take_of_length_le (by simp [hlen])]

theorem Row.sget {r : Nat} {e : TypeId} {s : Sl} {l : List Str} (h : Row tag σ r e s (l.map vS)) (hs : SL.Sep ro σ) {i : Nat} (hi : i < l.length) :
    ∃ p, s.a = some p ∧ s.len = l.length ∧ ∀ j (hj : j < l.length), acell ro σ (p.add (j * 1)) = some (vS l[j]) := by
  obtain ⟨p, hp, hg⟩ := h.ptr hs (by simp; omega)
  refine ⟨p, hp, by rw [h.len]; simp, fun j hj => hg j _ ?_⟩
  rw [List.getElem?_map, List.getElem?_eq_getElem hj]; rfl

theorem parts_ok {s : ByteArray} {Q : Sl → Int → AH → Prop} (r : Nat) (g : Glob ro) (hnone : parts (L s) = none → ∀ sl σ', Q sl 20 σ')
    (hsome : ∀ ps, parts (L s) = some ps → ∀ sl tag' σ', Step [] ro tag σ tag' σ' → Row tag' σ' r 9 sl (ps.map vS) → Q sl 0 σ') : c_path_Parts B ro s σ Q := by
  refine path_Parts_ok fun hs => ?_
  unfold f_path_Parts
  by_cases h1 : s = ⟨#[47]⟩
  · rw [if_pos h1]
    refine hsome [] ?_ _ tag σ (Step.refl hs) (Row.nil r 9)
    subst h1; rfl
  · have hne : L s ≠ [47] := fun h => h1 (L_inj h)
    rw [if_neg h1]
    by_cases h2 : 128 < (s.size : Int)
    · rw [if_pos h2]
      unfold j1_path_Parts
      rw [if_pos rfl]
      refine hnone ?_ _ _
      unfold parts; rw [if_neg hne, if_neg]
      intro h; have := h.1; rw [L_len] at this; omega
    · rw [if_neg h2]
      refine hasPrefix_ok ?_
      unfold j1_path_Parts
      by_cases h3 : (L s).head? = some 47
      · obtain ⟨t, ht⟩ : ∃ t, L s = 47 :: t := by
          cases h : L s with
          | nil => rw [h] at h3; cases h3
          | cons c t => rw [h] at h3; cases h3; exact ⟨t, rfl⟩
        have hp : (L (⟨#[47]⟩ : ByteArray)).isPrefixOf (L s) = true := by rw [ht]; rfl
        rw [hp, if_neg (by decide)]
        have hsz : s.size = t.length + 1 := by rw [← L_len, ht]; rfl
        refine ⟨⟨trivial, ⟨by omega, by show (1 : Int) ≤ (s.size : Int); omega⟩⟩, ?_⟩
        have hex : s.extract (Int.toNat 1) s.size = S t := by
          conv => lhs; rw [← S_L s]
          rw [S_extract, S_size, List.take_length, ht]; rfl
        rw [hex]
        refine split_ok (tag := tag) r g (by simp; omega) fun sl tag1 σ1 st1 r1 => ?_
        rw [L_S] at r1
        have hln : sl.len = (cut t).length := by rw [r1.len, List.length_map]
        have hdrop : (L s).drop 1 = t := by rw [ht]; rfl
        by_cases h4 : (cut t).length ≤ 8
        · rw [if_neg (by omega)]
          suffices ∀ m j, j + m = (cut t).length → (∀ i (hi : i < (cut t).length), i < j → nameOk (cut t)[i] = true) → lfpD (l5_path_Parts B ro sl Q) (j : Int) σ1 from
            this _ 0 (Nat.zero_add _) (fun i hi h => absurd h (Nat.not_lt_zero _))
          intro m
          induction m with
          | zero =>
            intro j hj hk
            refine lfpD.intro ?_
            unfold l5_path_Parts
            rw [if_neg (by omega)]
            unfold j4_path_Parts
            refine hsome (cut t) ?_ sl tag1 σ1 (st1 _) r1
            unfold parts
            rw [if_neg hne, hdrop, if_pos]
            refine ⟨by rw [L_len]; omega, h3, h4, ?_⟩
            rw [List.all_eq_true]
            intro x hx
            obtain ⟨i, hi, e⟩ := List.getElem_of_mem hx
            rw [← e]; exact hk i hi (by omega)
          | succ m ih =>
            intro j hj hk
            have hjl : j < (cut t).length := by omega
            obtain ⟨p, hp, _, hg⟩ := Row.sget r1 (st1 []).sep hjl
            refine lfpD.intro ?_
            unfold l5_path_Parts
            rw [if_pos (by omega)]
            refine ⟨p, hp, by omega, by omega, _, hg j hjl, ?_⟩
            refine name_ok ?_
            rw [L_S]
            by_cases h5 : nameOk (cut t)[j] = true
            · rw [if_neg (by simpa using h5), inc j (by omega)]
              refine ih (j + 1) (by omega) fun i hi hij => ?_
              rcases Nat.lt_or_ge i j with h | h
              · exact hk i hi h
              · have : i = j := by omega
                subst this; exact h5
            · rw [if_pos (by simpa using h5)]
              refine hnone ?_ _ _
              unfold parts
              rw [if_neg hne, hdrop, if_neg]
              intro h
              have := List.all_eq_true.1 h.2.2.2 _ (List.getElem_mem hjl)
              exact h5 this
        · rw [if_pos (by omega)]
          refine hnone ?_ _ _
          unfold parts
          rw [if_neg hne, hdrop, if_neg]
          intro h; exact h4 h.2.2.1
      · have hp : (L (⟨#[47]⟩ : ByteArray)).isPrefixOf (L s) = false := by
          rw [Bool.eq_false_iff]
          intro h
          apply h3
          cases hl : L s with
          | nil => rw [hl] at h; cases h
          | cons c t =>
            rw [hl] at h
            have : ([47] : Str).isPrefixOf (c :: t) = true := h
            simp at this
            rw [← this]; rfl
        rw [hp, if_pos (by decide)]
        refine hnone ?_ _ _
        unfold parts
        rw [if_neg hne, if_neg]
        intro h; exact h3 h.2.1

/-- path.Check: 0 or 20 -/
def chk (l : Str) : Int := if (parts l).isSome then 0 else 20
theorem check_ok {s : ByteArray} {Q : Int → AH → Prop} (g : Glob ro) (hQ : Q (chk (L s)) σ) : c_path_Check B ro s σ Q := by
  refine ACalls.quiet (R := fun v => v = .int .i64 (chk (L s))) ?_ (fun v hv => ⟨_, hv, hQ⟩)
  have : c_path_Check B ro s (fun _ => none) fun r _ => r = chk (L s) := by
    refine path_Check_ok fun hs => ?_
    unfold f_path_Check
    refine parts_ok (tag := fun _ => 0) 0 g (fun h _ _ => ?_) (fun ps h _ _ _ _ _ => ?_)
    · show (20 : Int) = chk (L s); unfold chk; rw [h]; rfl
    · show (0 : Int) = chk (L s); unfold chk; rw [h]; rfl
  exact ACalls.mono this fun v τ ⟨r, hv, hr⟩ => by rw [hv, hr]
theorem chk_zero {l : Str} : chk l = 0 ↔ ∃ ps, parts l = some ps := by
  unfold chk
  cases h : parts l with
  | none => simp
  | some ps => simp
theorem slash_iff {ps : List Str} (h : Good ps) : mk ps = [47] ↔ ps = [] :=
  ⟨fun e => Classical.byContradiction fun hn => mk_ne hn h.ok e, fun e => by rw [e]; rfl⟩
theorem li_mk {ps : List Str} {x : Str} (hx : 47 ∉ x) : li (mk (ps ++ [x])) (mk (ps ++ [x])).length = ((if ps = [] then [] else mk ps).length : Int) := by
  rw [mk_snoc]
  have := li_word (if ps = [] then [] else mk ps) x hx x.length (Nat.le_refl _)
  rw [show ((if ps = [] then [] else mk ps) ++ 47 :: x).length = (if ps = [] then [] else mk ps).length + 1 + x.length by simp; omega]
  exact this
theorem mk_pos (ps : List Str) : 1 ≤ (mk ps).length := by obtain ⟨r, h⟩ := mk_head ps; rw [h]; simp

/-- path.Parent: the path above, or the error 20 -/
def parent (l : Str) : Option Str := match parts l with | some ps => if ps = [] then none else some (mk ps.dropLast) | none => none
theorem parent_ok {s : ByteArray} {Q : ByteArray → Int → AH → Prop} (g : Glob ro) (hnone : parent (L s) = none → Q (⟨#[]⟩ : ByteArray) 20 σ) (hsome : ∀ u, parent (L s) = some u → Q (S u) 0 σ) : c_path_Parent B ro s σ Q := by
  refine path_Parent_ok fun hs => ?_
  unfold f_path_Parent
  by_cases h1 : s = ⟨#[47]⟩
  · rw [if_pos h1]
    unfold j1_path_Parent
    rw [if_pos rfl]
    refine hnone ?_
    subst h1; rfl
  · rw [if_neg h1]
    refine check_ok g ?_
    unfold j1_path_Parent
    by_cases h2 : chk (L s) = 0
    · rw [if_neg (by simpa using h2)]
      obtain ⟨ps, hps⟩ := chk_zero.1 h2
      obtain ⟨hl, hg⟩ := parts_iff.1 hps
      have hne : ps ≠ [] := fun e => h1 (L_inj (by rw [hl, e]; rfl))
      obtain ⟨qs, x, rfl⟩ : ∃ qs x, ps = qs ++ [x] := by
        rcases List.eq_nil_or_concat ps with e | ⟨qs, x, e⟩
        · exact absurd e hne
        · exact ⟨qs, x, by rw [e, List.concat_eq_append]⟩
      have hx : 47 ∉ x := name_no (hg.ok x (by simp))
      have hsz : s.size = (mk (qs ++ [x])).length := by rw [← L_len, hl]
      have h128 := hg.len
      refine last_ok (by omega) ?_
      rw [hl, hsz, li_mk hx]
      have hpar : parent (L s) = some (mk qs) := by unfold parent; rw [hps]; simp
      have hlen : (mk (qs ++ [x])).length = (if qs = [] then [] else mk qs).length + 1 + x.length := by rw [mk_snoc]; simp; omega
      have hmax : (if 1 < (((if qs = [] then [] else mk qs).length : Nat) : Int) then (((if qs = [] then [] else mk qs).length : Nat) : Int) else 1) = ((mk qs).length : Int) := by
        by_cases e : qs = []
        · subst e; rfl
        · rw [if_neg e]
          have := mk_pos qs
          split <;> omega
      rw [hmax]
      have hle : (mk qs).length ≤ (mk (qs ++ [x])).length := by
        rw [hlen]
        by_cases e : qs = []
        · subst e; simp [mk]
        · rw [if_neg e]; omega
      refine ⟨⟨⟨by omega, by omega⟩, trivial⟩, ?_⟩
      rw [Int.toNat_natCast]
      have hex : s.extract 0 (mk qs).length = S (mk qs) := by
        conv => lhs; rw [← S_L s]
        rw [S_extract, hl, List.drop_zero]
        congr 1
        rw [mk_snoc]
        by_cases e : qs = []
        · subst e; rfl
        · rw [if_neg e, List.take_left]
      rw [hex]
      exact hsome _ hpar
    · rw [if_pos (by simpa using h2)]
      refine hnone ?_
      unfold parent
      cases h : parts (L s) with
      | none => rfl
      | some ps => exact absurd (chk_zero.2 ⟨ps, h⟩) h2
/-- path.Base: the last name -/
def base (l : Str) : Option Str := match parts l with | some ps => ps.getLast? | none => none
theorem base_ok {s : ByteArray} {Q : ByteArray → Int → AH → Prop} (g : Glob ro) (hnone : base (L s) = none → Q (⟨#[]⟩ : ByteArray) 20 σ) (hsome : ∀ u, base (L s) = some u → Q (S u) 0 σ) : c_path_Base B ro s σ Q := by
  refine path_Base_ok fun hs => ?_
  unfold f_path_Base
  by_cases h1 : s = ⟨#[47]⟩
  · rw [if_pos h1]
    unfold j1_path_Base
    rw [if_pos rfl]
    refine hnone ?_
    subst h1; rfl
  · rw [if_neg h1]
    refine check_ok g ?_
    unfold j1_path_Base
    by_cases h2 : chk (L s) = 0
    · rw [if_neg (by simpa using h2)]
      obtain ⟨ps, hps⟩ := chk_zero.1 h2
      obtain ⟨hl, hg⟩ := parts_iff.1 hps
      have hne : ps ≠ [] := fun e => h1 (L_inj (by rw [hl, e]; rfl))
      obtain ⟨qs, x, rfl⟩ : ∃ qs x, ps = qs ++ [x] := by
        rcases List.eq_nil_or_concat ps with e | ⟨qs, x, e⟩
        · exact absurd e hne
        · exact ⟨qs, x, by rw [e, List.concat_eq_append]⟩
      have hx : 47 ∉ x := name_no (hg.ok x (by simp))
      have hsz : s.size = (mk (qs ++ [x])).length := by rw [← L_len, hl]
      have h128 := hg.len
      refine last_ok (by omega) ?_
      rw [hl, hsz, li_mk hx]
      have hbase : base (L s) = some x := by unfold base; rw [hps]; simp
      have hlen : (mk (qs ++ [x])).length = (if qs = [] then [] else mk qs).length + 1 + x.length := by rw [mk_snoc]; simp; omega
      rw [inc _ (by omega), Int.toNat_natCast]
      refine ⟨⟨trivial, ⟨by omega, ?_⟩⟩, ?_⟩
      · show ((_ : Nat) : Int) ≤ ((mk (qs ++ [x])).length : Int)
        rw [hlen]; omega
      have hex : s.extract ((if qs = [] then [] else mk qs).length + 1) (mk (qs ++ [x])).length = S x := by
        conv => lhs; rw [← S_L s]
        rw [S_extract, hl, List.take_of_length_le (Nat.le_refl _), mk_snoc]
        congr 1
        rw [show (if qs = [] then [] else mk qs) ++ 47 :: x = ((if qs = [] then [] else mk qs) ++ [47]) ++ x by simp]
        rw [List.drop_left' (by simp)]
      rw [hex]
      exact hsome _ hbase
    · rw [if_pos (by simpa using h2)]
      refine hnone ?_
      unfold base
      cases h : parts (L s) with
      | none => rfl
      | some ps => exact absurd (chk_zero.2 ⟨ps, h⟩) h2
end Go.Proofs.YthfpmipeejjogaaGreatDoor.Pa
