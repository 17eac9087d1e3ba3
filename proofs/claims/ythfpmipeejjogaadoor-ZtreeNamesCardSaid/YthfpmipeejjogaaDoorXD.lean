/- PaC, PaD, PaE, PaF, GZt, ZtA, ZtB, ZtC, ZtD, ZtP -/
import Derived.Test.YthfpmipeejjogaaDoorXC
/- Paths, the walk, on: Parts, Check, Parent, Base, Under. -/
namespace Go.Proofs.YthfpmipeejjogaaDoor.Pa
open Go Go.Proofs.YthfpmipeejjogaaDoor.SL Go.Proofs.YthfpmipeejjogaaDoor.G Go.RowKit
set_option linter.unusedSimpArgs false
set_option linter.unusedVariables false
/-- what the laws read of package variables -/
structure Glob (ro : AH) : Prop where
  maxlen : ∃ m o, ro 0 = some o ∧ cellOf ⟨0, 0, none⟩ (some o) = some (.int .i64 m)
  tab : ∀ w : World, (∀ b o, ro b = some o → w.heap[b]? = some o) → Lib.TabIs Tryd.prog w "internal/strconv.uint64pow10" .u64 Lib.pow10Tab
variable {B : World} {ro σ σ' : AH} {tag tag' : Nat → Nat}

theorem sees_ro {w : World} (h : Sees ro σ w) : ∀ b o, ro b = some o → w.heap[b]? = some o := fun b o hb => h b o (by unfold rd; rw [hb])
abbrev vS (l : Str) : Value := .string (S l)

theorem split_ok {s : ByteArray} {Q : Sl → AH → Prop} (r : Nat) (g : Glob ro) (hs : s.size < 4294967281) (hQ : ∀ sl tag' σ', (∀ R, Step R ro tag σ tag' σ') → Row tag' σ' r 9 sl ((cut (L s)).map vS) → Q sl σ') :
    c_strings_Split B ro s (⟨#[47]⟩ : ByteArray) σ Q := by
  refine ACalls.of_calls fun w hw hsep => ?_
  obtain ⟨m, o, h0, h1⟩ := g.maxlen
  have hm : w.cell? ⟨0, 0, none⟩ = some (.int .i64 m) := by rw [cell?_eq, sees_ro hw 0 o h0]; exact h1
  refine (Tryd.strings_Split s (S [47]) m w hs hm (by decide)).mono ?_
  rintro e w' ⟨he, rfl⟩
  have hmap : (Lib.splitB (S [47]) 0 (Lib.countB s (S [47])) s).map Value.string = (cut (L s)).map vS := by
    rw [← split_cut, List.map_map]
    refine List.map_congr_left fun x _ => ?_
    simp [vS]
  have hlen : (cut (L s)).length = Lib.countB s (S [47]) + 1 := by
    have := Lib.splitB_all (S [47]) (by decide) 0 _ s rfl
    rw [← split_cut, List.length_map, this]
  obtain ⟨N, tag', hN, hst, hrow⟩ := new_row (tag := tag) (w' := w.alloc (.cells ((Lib.splitB (S [47]) 0 (Lib.countB s (S [47])) s).map Value.string).toArray 9)) r hw hsep (Nat.le_refl w.heap.size) (heap_alloc_new w _)
  refine ⟨_, N, he, (Below.refl _ w).alloc (Nat.le_refl _) _, hN, ⟨some ⟨w.heap.size, 0, none⟩, Lib.countB s (S [47]) + 1, Lib.countB s (S [47]) + 1⟩, rfl, ?_⟩
  refine hQ _ tag' _ hst (hrow _ _ _ ?_ ?_ (Nat.le_refl _) ?_)
  · rw [List.length_map, hlen]
  · rw [hmap]; simp [hlen]
  · rw [hmap]; simp only [List.toList_toArray]
    rw [List.take_of_length_le (by simp [hlen])]

theorem Row.sget {r : Nat} {e : TypeId} {s : Sl} {l : List Str} (h : Row tag σ r e s (l.map vS)) (hs : SL.Sep ro σ) {i : Nat} (hi : i < l.length) :
    ∃ p, s.a = some p ∧ s.len = l.length ∧ ∀ j (hj : j < l.length), acell ro σ (p.add (j * 1)) = some (vS l[j]) := by
  obtain ⟨p, hp, hg⟩ := h.ptr hs (by simp; omega)
  refine ⟨p, hp, by rw [h.len]; simp, fun j hj => hg j _ ?_⟩
  rw [List.getElem?_map, List.getElem?_eq_getElem hj]; rfl

theorem parts_ok {s : ByteArray} {Q : Sl → Int → AH → Prop} (r : Nat) (g : Glob ro) (hnone : parts (L s) = none → ∀ sl σ', Q sl 20 σ')
    (hsome : ∀ ps, parts (L s) = some ps → ∀ sl tag' σ', Step [] ro tag σ tag' σ' → Row tag' σ' r 9 sl (ps.map vS) → Q sl 0 σ') : c_path_Parts B ro s σ Q := by
  refine path_Parts_ok fun hs => ?_
  unfold f_path_Parts
  by_cases h1 : s = ⟨#[47]⟩
  · rw [if_pos h1]
    refine hsome [] ?_ _ tag σ (Step.refl hs) (Row.nil r 9)
    subst h1; rfl
  · have hne : L s ≠ [47] := fun h => h1 (L_inj h)
    rw [if_neg h1]
    by_cases h2 : 128 < (s.size : Int)
    · rw [if_pos h2]
      unfold j1_path_Parts
      rw [if_pos rfl]
      refine hnone ?_ _ _
      unfold parts; rw [if_neg hne, if_neg]
      intro h; have := h.1; rw [L_len] at this; omega
    · rw [if_neg h2]
      refine hasPrefix_ok ?_
      unfold j1_path_Parts
      by_cases h3 : (L s).head? = some 47
      · obtain ⟨t, ht⟩ : ∃ t, L s = 47 :: t := by
          cases h : L s with
          | nil => rw [h] at h3; cases h3
          | cons c t => rw [h] at h3; cases h3; exact ⟨t, rfl⟩
        have hp : (L (⟨#[47]⟩ : ByteArray)).isPrefixOf (L s) = true := by rw [ht]; rfl
        rw [hp, if_neg (by decide)]
        have hsz : s.size = t.length + 1 := by rw [← L_len, ht]; rfl
        refine ⟨⟨trivial, ⟨by omega, by show (1 : Int) ≤ (s.size : Int); omega⟩⟩, ?_⟩
        have hex : s.extract (Int.toNat 1) s.size = S t := by
          conv => lhs; rw [← S_L s]
          rw [S_extract, S_size, List.take_length, ht]; rfl
        rw [hex]
        refine split_ok (tag := tag) r g (by simp; omega) fun sl tag1 σ1 st1 r1 => ?_
        rw [L_S] at r1
        have hln : sl.len = (cut t).length := by rw [r1.len, List.length_map]
        have hdrop : (L s).drop 1 = t := by rw [ht]; rfl
        by_cases h4 : (cut t).length ≤ 8
        · rw [if_neg (by omega)]
          suffices ∀ m j, j + m = (cut t).length → (∀ i (hi : i < (cut t).length), i < j → nameOk (cut t)[i] = true) → lfpD (l5_path_Parts B ro sl Q) (j : Int) σ1 from
            this _ 0 (Nat.zero_add _) (fun i hi h => absurd h (Nat.not_lt_zero _))
          intro m
          induction m with
          | zero =>
            intro j hj hk
            refine lfpD.intro ?_
            unfold l5_path_Parts
            rw [if_neg (by omega)]
            unfold j4_path_Parts
            refine hsome (cut t) ?_ sl tag1 σ1 (st1 _) r1
            unfold parts
            rw [if_neg hne, hdrop, if_pos]
            refine ⟨by rw [L_len]; omega, h3, h4, ?_⟩
            rw [List.all_eq_true]
            intro x hx
            obtain ⟨i, hi, e⟩ := List.getElem_of_mem hx
            rw [← e]; exact hk i hi (by omega)
          | succ m ih =>
            intro j hj hk
            have hjl : j < (cut t).length := by omega
            obtain ⟨p, hp, _, hg⟩ := Row.sget r1 (st1 []).sep hjl
            refine lfpD.intro ?_
            unfold l5_path_Parts
            rw [if_pos (by omega)]
            refine ⟨p, hp, by omega, by omega, _, hg j hjl, ?_⟩
            refine name_ok ?_
            rw [L_S]
            by_cases h5 : nameOk (cut t)[j] = true
            · rw [if_neg (by simpa using h5), inc j (by omega)]
              refine ih (j + 1) (by omega) fun i hi hij => ?_
              rcases Nat.lt_or_ge i j with h | h
              · exact hk i hi h
              · have : i = j := by omega
                subst this; exact h5
            · rw [if_pos (by simpa using h5)]
              refine hnone ?_ _ _
              unfold parts
              rw [if_neg hne, hdrop, if_neg]
              intro h
              have := List.all_eq_true.1 h.2.2.2 _ (List.getElem_mem hjl)
              exact h5 this
        · rw [if_pos (by omega)]
          refine hnone ?_ _ _
          unfold parts
          rw [if_neg hne, hdrop, if_neg]
          intro h; exact h4 h.2.2.1
      · have hp : (L (⟨#[47]⟩ : ByteArray)).isPrefixOf (L s) = false := by
          rw [Bool.eq_false_iff]
          intro h
          apply h3
          cases hl : L s with
          | nil => rw [hl] at h; cases h
          | cons c t =>
            rw [hl] at h
            have : ([47] : Str).isPrefixOf (c :: t) = true := h
            simp at this
            rw [← this]; rfl
        rw [hp, if_pos (by decide)]
        refine hnone ?_ _ _
        unfold parts
        rw [if_neg hne, if_neg]
        intro h; exact h3 h.2.1

/-- path.Check: 0 or 20 -/
def chk (l : Str) : Int := if (parts l).isSome then 0 else 20
theorem check_ok {s : ByteArray} {Q : Int → AH → Prop} (g : Glob ro) (hQ : Q (chk (L s)) σ) : c_path_Check B ro s σ Q := by
  refine ACalls.quiet (R := fun v => v = .int .i64 (chk (L s))) ?_ (fun v hv => ⟨_, hv, hQ⟩)
  have : c_path_Check B ro s (fun _ => none) fun r _ => r = chk (L s) := by
    refine path_Check_ok fun hs => ?_
    unfold f_path_Check
    refine parts_ok (tag := fun _ => 0) 0 g (fun h _ _ => ?_) (fun ps h _ _ _ _ _ => ?_)
    · show (20 : Int) = chk (L s); unfold chk; rw [h]; rfl
    · show (0 : Int) = chk (L s); unfold chk; rw [h]; rfl
  exact ACalls.mono this fun v τ ⟨r, hv, hr⟩ => by rw [hv, hr]
theorem chk_zero {l : Str} : chk l = 0 ↔ ∃ ps, parts l = some ps := by
  unfold chk
  cases h : parts l with
  | none => simp
  | some ps => simp
theorem slash_iff {ps : List Str} (h : Good ps) : mk ps = [47] ↔ ps = [] :=
  ⟨fun e => Classical.byContradiction fun hn => mk_ne hn h.ok e, fun e => by rw [e]; rfl⟩
theorem li_mk {ps : List Str} {x : Str} (hx : 47 ∉ x) : li (mk (ps ++ [x])) (mk (ps ++ [x])).length = ((if ps = [] then [] else mk ps).length : Int) := by
  rw [mk_snoc]
  have := li_word (if ps = [] then [] else mk ps) x hx x.length (Nat.le_refl _)
  rw [show ((if ps = [] then [] else mk ps) ++ 47 :: x).length = (if ps = [] then [] else mk ps).length + 1 + x.length by simp; omega]
  exact this
theorem mk_pos (ps : List Str) : 1 ≤ (mk ps).length := by obtain ⟨r, h⟩ := mk_head ps; rw [h]; simp

/-- path.Parent: the path above, or the error 20 -/
def parent (l : Str) : Option Str := match parts l with | some ps => if ps = [] then none else some (mk ps.dropLast) | none => none
theorem parent_ok {s : ByteArray} {Q : ByteArray → Int → AH → Prop} (g : Glob ro) (hnone : parent (L s) = none → Q (⟨#[]⟩ : ByteArray) 20 σ) (hsome : ∀ u, parent (L s) = some u → Q (S u) 0 σ) : c_path_Parent B ro s σ Q := by
  refine path_Parent_ok fun hs => ?_
  unfold f_path_Parent
  by_cases h1 : s = ⟨#[47]⟩
  · rw [if_pos h1]
    unfold j1_path_Parent
    rw [if_pos rfl]
    refine hnone ?_
    subst h1; rfl
  · rw [if_neg h1]
    refine check_ok g ?_
    unfold j1_path_Parent
    by_cases h2 : chk (L s) = 0
    · rw [if_neg (by simpa using h2)]
      obtain ⟨ps, hps⟩ := chk_zero.1 h2
      obtain ⟨hl, hg⟩ := parts_iff.1 hps
      have hne : ps ≠ [] := fun e => h1 (L_inj (by rw [hl, e]; rfl))
      obtain ⟨qs, x, rfl⟩ : ∃ qs x, ps = qs ++ [x] := by
        rcases List.eq_nil_or_concat ps with e | ⟨qs, x, e⟩
        · exact absurd e hne
        · exact ⟨qs, x, by rw [e, List.concat_eq_append]⟩
      have hx : 47 ∉ x := name_no (hg.ok x (by simp))
      have hsz : s.size = (mk (qs ++ [x])).length := by rw [← L_len, hl]
      have h128 := hg.len
      refine last_ok (by omega) ?_
      rw [hl, hsz, li_mk hx]
      have hpar : parent (L s) = some (mk qs) := by unfold parent; rw [hps]; simp
      have hlen : (mk (qs ++ [x])).length = (if qs = [] then [] else mk qs).length + 1 + x.length := by rw [mk_snoc]; simp; omega
      have hmax : (if 1 < (((if qs = [] then [] else mk qs).length : Nat) : Int) then (((if qs = [] then [] else mk qs).length : Nat) : Int) else 1) = ((mk qs).length : Int) := by
        by_cases e : qs = []
        · subst e; rfl
        · rw [if_neg e]
          have := mk_pos qs
          split <;> omega
      rw [hmax]
      have hle : (mk qs).length ≤ (mk (qs ++ [x])).length := by
        rw [hlen]
        by_cases e : qs = []
        · subst e; simp [mk]
        · rw [if_neg e]; omega
      refine ⟨⟨⟨by omega, by omega⟩, trivial⟩, ?_⟩
      rw [Int.toNat_natCast]
      have hex : s.extract 0 (mk qs).length = S (mk qs) := by
        conv => lhs; rw [← S_L s]
        rw [S_extract, hl, List.drop_zero]
        congr 1
        rw [mk_snoc]
        by_cases e : qs = []
        · subst e; rfl
        · rw [if_neg e, List.take_left]
      rw [hex]
      exact hsome _ hpar
    · rw [if_pos (by simpa using h2)]
      refine hnone ?_
      unfold parent
      cases h : parts (L s) with
      | none => rfl
      | some ps => exact absurd (chk_zero.2 ⟨ps, h⟩) h2
/-- path.Base: the last name -/
def base (l : Str) : Option Str := match parts l with | some ps => ps.getLast? | none => none
end Go.Proofs.YthfpmipeejjogaaDoor.Pa

/- Paths, the walk of the document's answer (althingref02): it says what package path says. -/
namespace Go.Proofs.YthfpmipeejjogaaDoor.Pa
open Go Go.Proofs.YthfpmipeejjogaaDoor.SL Go.Proofs.YthfpmipeejjogaaDoor.G Go.RowKit
set_option linter.unusedSimpArgs false
set_option linter.unusedVariables false
variable {B : World} {ro σ σ' : AH} {tag tag' : Nat → Nat}

theorem get_L (s : ByteArray) (i : Nat) (h : i < s.size) : s[i]? = some ((L s)[i]'(by rw [L_len]; exact h)) := by
  conv => lhs; rw [← S_L s]
  rw [S_get, List.getElem?_eq_getElem]
theorem okc_int (c : UInt8) : okc c = true ↔ (((97 ≤ (c.toNat : Int) ∧ (c.toNat : Int) ≤ 122) ∨ (48 ≤ (c.toNat : Int) ∧ (c.toNat : Int) ≤ 57)) ∨ (c.toNat : Int) = 46) ∨ (c.toNat : Int) = 95 ∨ (c.toNat : Int) = 45 := by
  simp [okc]; omega

theorem rname_ok {s : ByteArray} {Q : Bool → AH → Prop} (hQ : Q (nameOk (L s)) σ) : c_ref02_Name B ro s σ Q := by
  refine ref02_Name_ok fun hs => ?_
  unfold f_ref02_Name
  by_cases g : ((((s.size : Int) < 1) ∨ (32 < (s.size : Int))) ∨ s = ⟨#[46]⟩) ∨ s = ⟨#[46, 46]⟩
  · rw [if_pos g]
    have : nameOk (L s) = false := by
      rw [Bool.eq_false_iff]
      intro h
      unfold nameOk at h
      simp only [Bool.and_eq_true, decide_eq_true_eq, bne_iff_ne] at h
      obtain ⟨⟨⟨⟨h1, h2⟩, h3⟩, h4⟩, _⟩ := h
      rw [L_len] at h1 h2
      rcases g with ((g | g) | g) | g
      · omega
      · omega
      · rw [g] at h3; exact h3 rfl
      · rw [g] at h4; exact h4 rfl
    rw [this] at hQ; exact hQ
  · rw [if_neg g]
    have hall : nameOk (L s) = (L s).all okc := by
      unfold nameOk
      have e1 : 1 ≤ (L s).length := by rw [L_len]; omega
      have e2 : (L s).length ≤ 32 := by rw [L_len]; omega
      have e3 : L s ≠ [46] := fun h => g (.inl (.inr (L_inj h)))
      have e4 : L s ≠ [46, 46] := fun h => g (.inr (L_inj h))
      simp [e1, e2, e3, e4]
    rw [hall] at hQ
    have h32 : s.size ≤ 32 := by omega
    suffices ∀ m j, j + m = s.size → (∀ i, i < j → ∀ c, (L s)[i]? = some c → okc c = true) → lfpD (l2_ref02_Name B ro s Q) (j : Int) σ from
      this s.size 0 (Nat.zero_add _) (fun i h => absurd h (Nat.not_lt_zero _))
    intro m
    induction m with
    | zero =>
      intro j hj hk
      refine lfpD.intro ?_
      unfold l2_ref02_Name
      rw [if_neg (by omega)]
      have : (L s).all okc = true := by
        rw [List.all_eq_true]
        intro c hc
        obtain ⟨i, hi, e⟩ := List.getElem_of_mem hc
        exact hk i (by rw [L_len] at hi; omega) c (by rw [List.getElem?_eq_getElem hi, e])
      rw [this] at hQ; exact hQ
    | succ m ih =>
      intro j hj hk
      have hjl : j < (L s).length := by rw [L_len]; omega
      refine lfpD.intro ?_
      unfold l2_ref02_Name
      rw [if_pos (by omega)]
      refine ⟨(L s)[j], by omega, by rw [Int.toNat_natCast]; exact get_L s j (by omega), ?_⟩
      have key : ∀ x : Bool, (((x = true ∨ ((L s)[j].toNat : Int) = 46) ∨ ((L s)[j].toNat : Int) = 95) ∨ ((L s)[j].toNat : Int) = 45 ↔ okc (L s)[j] = true) → j5_ref02_Name B ro s j (L s)[j] Q (lfpD (l2_ref02_Name B ro s Q)) x σ := by
        intro x hx
        unfold j5_ref02_Name
        by_cases c : okc (L s)[j] = true
        · rw [if_neg (fun h => h (hx.2 c)), inc j (by omega)]
          refine ih (j + 1) (by omega) fun i hi c' hc' => ?_
          rcases Nat.lt_or_ge i j with h | h
          · exact hk i h c' hc'
          · have : i = j := by omega
            subst this
            rw [List.getElem?_eq_getElem hjl] at hc'
            cases hc'; exact c
        · rw [if_pos (fun h => c (hx.1 h))]
          have : (L s).all okc = false := by
            rw [Bool.eq_false_iff, ne_eq, List.all_eq_true]
            exact fun h => c (h _ (List.getElem_mem hjl))
          rw [this] at hQ; exact hQ
      by_cases b1 : (97 : Int) ≤ ((L s)[j].toNat : Int) ∧ ((L s)[j].toNat : Int) ≤ 122
      · rw [if_pos b1]
        exact key _ (by rw [okc_int]; simp; omega)
      · rw [if_neg b1]
        exact key _ (by rw [okc_int]; simp; omega)

end Go.Proofs.YthfpmipeejjogaaDoor.Pa

/- Paths, the walk: the document's Make, Parent, Base, Under, and package path's Under. -/
namespace Go.Proofs.YthfpmipeejjogaaDoor.Pa
open Go Go.Proofs.YthfpmipeejjogaaDoor.SL Go.Proofs.YthfpmipeejjogaaDoor.G Go.RowKit
set_option linter.unusedSimpArgs false
set_option linter.unusedVariables false
variable {B : World} {ro σ σ' : AH} {tag tag' : Nat → Nat}

theorem Row.cap {r : Nat} {e : TypeId} {s : Sl} {l : List Value} (h : Row tag σ r e s l) : s.len ≤ s.cap := by
  rcases h with ⟨e, _⟩ | ⟨_, _, _, _, _, _, _, h, _⟩
  · rw [e]; exact Nat.le_refl _
  · exact h

/-! one path below another -/
def under (p q : Str) : Option Bool := match parts p, parts q with | some ps, some qs => some (ps.isPrefixOf qs) | _, _ => none
end Go.Proofs.YthfpmipeejjogaaDoor.Pa

/- Paths, the walk: ten digits behind a path. -/
namespace Go.Proofs.YthfpmipeejjogaaDoor.Pa
open Go Go.Proofs.YthfpmipeejjogaaDoor.SL Go.Proofs.YthfpmipeejjogaaDoor.G Go.RowKit
set_option linter.unusedSimpArgs false
set_option linter.unusedVariables false
variable {B : World} {ro σ σ' : AH} {tag tag' : Nat → Nat}

def tens : Nat → Nat → Str
  | 0, _ => []
  | k + 1, n => tens k (n / 10) ++ [UInt8.ofNat (48 + n % 10)]
theorem tens_zero (k : Nat) : tens k 0 = List.replicate k 48 := by
  induction k with
  | zero => rfl
  | succ k ih => rw [tens, Nat.zero_div, ih, List.replicate_succ']; rfl
theorem tens_dec : ∀ (k n : Nat), n < 10 ^ (k + 1) → (Lib.decDigits n).length ≤ k + 1 ∧ List.replicate (k + 1 - (Lib.decDigits n).length) 48 ++ Lib.decDigits n = tens (k + 1) n := by
  intro k
  induction k with
  | zero =>
    intro n h
    have h : n < 10 := by simpa using h
    rw [Lib.decDigits, dif_pos h]
    refine ⟨by simp, ?_⟩
    simp [tens, Nat.mod_eq_of_lt h]
  | succ k ih =>
    intro n h
    by_cases h10 : n < 10
    · rw [Lib.decDigits, dif_pos h10]
      refine ⟨by simp, ?_⟩
      rw [tens, Nat.div_eq_of_lt h10, tens_zero, Nat.mod_eq_of_lt h10]; simp
    · rw [Lib.decDigits, dif_neg h10]
      obtain ⟨h1, h2⟩ := ih (n / 10) (by rw [Nat.div_lt_iff_lt_mul (by omega)]; rw [Nat.pow_succ] at h; exact h)
      refine ⟨by simp; omega, ?_⟩
      rw [tens, ← h2]
      simp only [List.length_append, List.length_cons, List.length_nil, ← List.append_assoc]
      rw [show k + 1 + 1 - ((Lib.decDigits (n / 10)).length + (0 + 1)) = k + 1 - (Lib.decDigits (n / 10)).length by omega]
theorem tens_len (k n : Nat) : (tens k n).length = k := by
  induction k generalizing n with
  | zero => rfl
  | succ k ih => rw [tens, List.length_append, ih]; rfl
theorem repeatL_rep (c : UInt8) (k : Nat) : Lib.repeatL [c] k = List.replicate k c := by
  induction k with
  | zero => rfl
  | succ k ih => rw [Lib.repeatL, ih]; rfl

theorem itoa_ok {n : Nat} {Q : ByteArray → AH → Prop} (g : Glob ro) (hn : n < 9223372036854775808) (hQ : Q (S (Lib.decDigits n)) σ) : c_strconv_Itoa B ro (n : Int) σ Q := by
  refine ACalls.of_calls fun w hw hsep => ?_
  refine (Tryd.strconv_Itoa (n : Int) (by omega) (by omega) w (g.tab w (sees_ro hw))).mono ?_
  rintro e w' ⟨he, k, os, rfl⟩
  have hb : Below w.heap.size w (Go.Sort.grow (w.drewN k) os) := ⟨rfl, rfl, rfl, by simp [Go.Sort.grow, World.drewN], fun b hb => by
    simp only [Go.Sort.grow, World.drewN]
    rw [Array.getElem?_append_left hb]⟩
  refine ⟨_, fun _ => none, he, hb, News.none _ _, S (Lib.decDigits n), ?_, ?_⟩
  · rw [Lib.itoa_nonneg]; rfl
  · rw [join_none_right]; exact hQ
theorem repeat_ok {k : Nat} {Q : ByteArray → AH → Prop} (hk : k ≤ 100) (hQ : Q (S (List.replicate k 48)) σ) : c_strings_Repeat B ro (⟨#[48]⟩ : ByteArray) (k : Int) σ Q := by
  refine ACalls.of_calls fun w hw hsep => ?_
  refine (Tryd.strings_Repeat (⟨#[48]⟩ : ByteArray) k w (by omega) (by show 1 * k ≤ _; omega)).mono ?_
  rintro e w' ⟨he, hb⟩
  refine ⟨_, fun _ => none, he, hb, News.none _ _, S (List.replicate k 48), ?_, ?_⟩
  · rw [show (⟨#[48]⟩ : ByteArray).data.toList = [48] from rfl, repeatL_rep]; rfl
  · rw [join_none_right]; exact hQ
def digits (n : Int) : Str := tens 10 n.toNat
def suffix (l : Str) (n : Int) : Option Str :=
  match parts l with
  | some ps => if ps = [] ∨ n < 0 ∨ 9999999999 < n then none else if (parts (l ++ digits n)).isSome then some (l ++ digits n) else none
  | none => none
theorem suffix_ok {p : ByteArray} {n : Int} {Q : ByteArray → Int → AH → Prop} (g : Glob ro) (hnone : suffix (L p) n = none → Q (⟨#[]⟩ : ByteArray) 20 σ) (hsome : ∀ u, suffix (L p) n = some u → Q (S u) 0 σ) : c_path_Suffix B ro p n σ Q := by
  refine path_Suffix_ok fun hs => ?_
  unfold f_path_Suffix
  by_cases h1 : (p = ⟨#[47]⟩ ∨ n < 0) ∨ 9999999999 < n
  · rw [if_pos h1]
    unfold j1_path_Suffix
    rw [if_pos rfl]
    refine hnone ?_
    unfold suffix
    cases h : parts (L p) with
    | none => rfl
    | some ps =>
      obtain ⟨hl, hg⟩ := parts_iff.1 h
      refine if_pos ?_
      rcases h1 with (h1 | h1) | h1
      · exact .inl ((slash_iff hg).1 (by rw [← hl, h1]; rfl))
      · exact .inr (.inl h1)
      · exact .inr (.inr h1)
  · rw [if_neg h1]
    have hp1 : p ≠ ⟨#[47]⟩ := fun h => h1 (.inl (.inl h))
    obtain ⟨m, rfl⟩ : ∃ m : Nat, n = m := ⟨n.toNat, by omega⟩
    refine check_ok g ?_
    unfold j1_path_Suffix
    by_cases h2 : chk (L p) = 0
    · rw [if_neg (by simpa using h2)]
      obtain ⟨ps, hps⟩ := chk_zero.1 h2
      obtain ⟨hl, hg⟩ := parts_iff.1 hps
      have hn : ps ≠ [] := fun e => hp1 (L_inj (by rw [hl, e]; rfl))
      refine itoa_ok g (by omega) ?_
      obtain ⟨hd1, hd2⟩ := tens_dec 9 m (by show m < 10000000000; omega)
      have e1 : IntKind.i64.wrap (10 - ((S (Lib.decDigits m)).size : Int)) = ((9 + 1 - (Lib.decDigits m).length : Nat) : Int) := by
        rw [S_size, SL.w64_eq (by omega) (by omega)]; omega
      rw [e1]
      refine repeat_ok (by omega) ?_
      have hsz : p.size = (mk ps).length := by rw [← L_len, hl]
      have h128 := hg.len
      rw [S_append, hd2]
      refine ⟨by simp only [S_size, List.length_replicate]; omega, by rw [S_size, tens_len]; omega, ?_⟩
      have e2 : p ++ S (tens (9 + 1) m) = S (L p ++ digits m) := by
        conv => lhs; rw [← S_L p]
        rw [S_append]; rfl
      rw [e2]
      refine check_ok g ?_
      rw [L_S]
      have hsuf : suffix (L p) (m : Int) = if (parts (L p ++ digits m)).isSome then some (L p ++ digits m) else none := by
        unfold suffix; rw [hps]; simp only; rw [if_neg fun h => h.elim hn (by omega)]
      by_cases h3 : chk (L p ++ digits m) = 0
      · rw [if_neg (by simpa using h3)]
        obtain ⟨qs, hqs⟩ := chk_zero.1 h3
        refine hsome _ ?_
        rw [hsuf, hqs]; rfl
      · rw [if_pos (by simpa using h3)]
        have e3 : parts (L p ++ digits m) = none := by
          cases h : parts (L p ++ digits m) with
          | none => rfl
          | some qs => exact absurd (chk_zero.2 ⟨qs, h⟩) h3
        have : chk (L p ++ digits m) = 20 := by unfold chk; rw [e3]; rfl
        rw [this]
        refine hnone ?_
        rw [hsuf, e3]; rfl
    · rw [if_pos (by simpa using h2)]
      refine hnone ?_
      unfold suffix
      cases h : parts (L p) with
      | none => rfl
      | some ps => exact absurd (chk_zero.2 ⟨ps, h⟩) h2
end Go.Proofs.YthfpmipeejjogaaDoor.Pa

/- Functions as predicate transformers, and the proofs that the code does what they tell: printed by wip/tools/gen.py. -/
namespace Go.Proofs.YthfpmipeejjogaaDoor.G
open Go Go.Proofs.YthfpmipeejjogaaDoor.SL
set_option linter.unusedVariables false
set_option linter.unusedSimpArgs false

def f_ztree_New (B : World) (ro : AH) (σ : AH) (Q : Option Addr → AH → Prop) : Prop :=
 nw ro σ (.map #[] 0) fun x1_1 σ =>
 nw ro σ (.cells #[.int .i64 0, .int .i64 0, .int .i64 0, .int .i64 0, Sl.v (⟨none, 0, 0⟩ : Sl)] 38) fun x3_2 σ =>
 awp Tryd.prog ro (Instr.mapUpdate 39 (.map (some x1_1)) (.string (⟨#[47]⟩ : ByteArray)) (.pointer (some ⟨x3_2, 0, none⟩))) (fun _ σ =>
  nw ro σ (.cells #[.map (some x1_1)] 41) fun x6_3 σ =>
  Q (some ⟨x6_3, 0, none⟩) σ) σ

set_option maxRecDepth 100000 in
set_option maxHeartbeats 4000000 in
theorem ztree_New_ok {B : World} {ro : AH} {σ : AH} {Q : Option Addr → AH → Prop} (h : Sep ro σ → f_ztree_New B ro σ Q) : c_ztree_New B ro σ Q := by
  refine ACalls.of_sep fun hsep => ?_
  replace h := h hsep
  refine ACalls.of_body (args := []) Tryd.func4 rfl (by rw [Tryd.ntmps4]; simp) ?_
  rw [Tryd.ntmps4]
  unfold f_ztree_New at h
  refine AW.seq ?_
  refine AW.reg ?_
  refine Lp (V_asg rfl rfl) rfl rfl ?_
  refine Lnil ?_
  refine thenN ?_
  refine AW.seq ?_
  refine AW.reg ?_
  refine Ls rfl rfl (X_new (A_map0 rfl) fun x1_1 g1 g2 => ?_)
  replace h := h x1_1 g1 g2
  refine Lp (V_bld (vs := []) (cs := #[.int .i64 0, .int .i64 0, .int .i64 0, .int .i64 0, Sl.v (⟨none, 0, 0⟩ : Sl)]) rfl Tryd.underlying38 ty38 pl38 rfl rfl) rfl rfl ?_
  refine Ls rfl rfl (X_new (A_box rfl rfl) fun x3_2 g1 g2 => ?_)
  replace h := h x3_2 g1 g2
  refine Ls rfl rfl (X_mup (.inr rfl) rfl rfl rfl (awp_mono _ h ?_))
  rintro _ σ h
  refine Lp (V_move rfl rfl) rfl rfl ?_
  refine Lp (V_bld (vs := [(0, .map (some x1_1))]) (cs := #[.map (some x1_1)]) rfl Tryd.underlying41 ty41 pl41 rfl rfl) rfl rfl ?_
  refine Ls rfl rfl (X_new (A_box rfl rfl) fun x6_3 g1 g2 => ?_)
  replace h := h x6_3 g1 g2
  refine Lp (V_asg rfl rfl) rfl rfl ?_
  refine Lnil ?_
  refine thenN ?_
  refine AW.ret ?_
  exact bR1 Tryd.results4 rfl ⟨_, rfl, h⟩

def j10_ztree_Tree_Create (B : World) (ro : AH) (a0 : Option Addr) (a2 : Sl) (a3 : Int) (x40_5 : Option Addr) (Q : ByteArray → Int → AH → Prop) (x1_11 : ByteArray) (σ : AH) : Prop :=
 ∃ p73_12 : Addr, a0 = some p73_12 ∧
 ∃ (x75_13 : Option Nat), acell ro σ p73_12 = some (.map x75_13) ∧
 awp Tryd.prog ro (Instr.lookup 39 (.map x75_13) (.string x1_11) false) (fun v σ =>
  (∃ (x77_14 : Option Addr), v = .pointer x77_14 ∧
   if ¬ (x77_14 = none) then
    Q (⟨#[]⟩ : ByteArray) 71 σ
   else
   lent σ fun ψ σ =>
    ∃ p80_15 : Addr, a0 = some p80_15 ∧
    ∃ (x82_16 : Option Nat), acell (join ro ψ) (fun _ => none) p80_15 = some (.map x82_16) ∧
    c_bytes_Clone B (join ro ψ) a2 σ fun x87_17 σ =>
    nw (join ro ψ) σ (.cells #[.int .i64 0, .int .i64 0, .int .i64 a3, .int .i64 0, Sl.v x87_17] 38) fun x89_18 σ =>
    awp Tryd.prog (join ro ψ) (Instr.mapUpdate 39 (.map x82_16) (.string x1_11) (.pointer (some ⟨x89_18, 0, none⟩))) (fun _ σ =>
     (Disj ψ σ → (fun σ => 
      ∃ p91_19 : Addr, x40_5 = some p91_19 ∧
      ∃ (x94_20 : Int), acell ro σ (p91_19.add 1) = some (.int .i64 x94_20) ∧
      ∃ p96_21 : Addr, x40_5 = some p96_21 ∧
      stN (p96_21.add 1) (fun σ =>
       ∃ p100_22 : Addr, x40_5 = some p100_22 ∧
       ∃ (x103_23 : Int), acell ro σ (p100_22.add 3) = some (.int .i64 x103_23) ∧
       ∃ p105_24 : Addr, x40_5 = some p105_24 ∧
       stN (p105_24.add 3) (fun σ =>
        Q x1_11 0 σ) [.int .i64 (IntKind.i64.wrap (x103_23 + 1))] 0 σ) [.int .i64 (IntKind.i64.wrap (x94_20 + 1))] 0 σ) (join ψ σ))) σ)) σ

def f_ztree_Tree_Create (B : World) (ro : AH) (a0 : Option Addr) (a1 : ByteArray) (a2 : Sl) (a3 : Int) (a4 : Bool) (σ : AH) (Q : ByteArray → Int → AH → Prop) : Prop :=
 c_path_Parent B ro a1 σ fun x17_1 x17_2 σ =>
 if ¬ (x17_2 = 0) then
  Q (⟨#[]⟩ : ByteArray) x17_2 σ
 else
 if 256 < (a2.len : Int) then
  Q (⟨#[]⟩ : ByteArray) 75 σ
 else
 if (a3 < 0) ∨ (4611686018427387903 < a3) then
  Q (⟨#[]⟩ : ByteArray) 10 σ
 else
 ∃ p36_3 : Addr, a0 = some p36_3 ∧
 ∃ (x38_4 : Option Nat), acell ro σ p36_3 = some (.map x38_4) ∧
 awp Tryd.prog ro (Instr.lookup 39 (.map x38_4) (.string x17_1) false) (fun v σ =>
  (∃ (x40_5 : Option Addr), v = .pointer x40_5 ∧
   if x40_5 = none then
    Q (⟨#[]⟩ : ByteArray) 70 σ
   else
   ∃ p46_6 : Addr, x40_5 = some p46_6 ∧
   ∃ (x49_7 : Int), acell ro σ (p46_6.add 2) = some (.int .i64 x49_7) ∧
   if ¬ (x49_7 = 0) then
    Q (⟨#[]⟩ : ByteArray) 74 σ
   else
   ∃ p53_8 : Addr, x40_5 = some p53_8 ∧
   ∃ (x56_9 : Int), acell ro σ (p53_8.add 1) = some (.int .i64 x56_9) ∧
   if 9999999999 < x56_9 then
    Q (⟨#[]⟩ : ByteArray) 76 σ
   else
   if a4 = true then
    ∃ p62_25 : Addr, x40_5 = some p62_25 ∧
    ∃ (x65_26 : Int), acell ro σ (p62_25.add 1) = some (.int .i64 x65_26) ∧
    c_path_Suffix B ro a1 x65_26 σ fun x66_27 x66_28 σ =>
    if ¬ (x66_28 = 0) then
     Q (⟨#[]⟩ : ByteArray) x66_28 σ
    else
    j10_ztree_Tree_Create B ro a0 a2 a3 x40_5 Q x66_27 σ
   else
   j10_ztree_Tree_Create B ro a0 a2 a3 x40_5 Q a1 σ)) σ

set_option maxRecDepth 100000 in
set_option maxHeartbeats 4000000 in
theorem ztree_Tree_Create_ok {B : World} {ro : AH} {a0 : Option Addr} {a1 : ByteArray} {a2 : Sl} {a3 : Int} {a4 : Bool} {σ : AH} {Q : ByteArray → Int → AH → Prop} (h : Sep ro σ → f_ztree_Tree_Create B ro a0 a1 a2 a3 a4 σ Q) : c_ztree_Tree_Create B ro a0 a1 a2 a3 a4 σ Q := by
  refine ACalls.of_sep fun hsep => ?_
  replace h := h hsep
  refine ACalls.of_body (args := [.pointer a0, .string a1, Sl.v a2, .int .i64 a3, .bool a4]) Tryd.func5 rfl (by rw [Tryd.ntmps5]; simp) ?_
  rw [Tryd.ntmps5]
  unfold f_ztree_Tree_Create at h
  refine AW.seq ?_
  refine AW.reg ?_
  refine Lp (V_asg rfl rfl) rfl rfl ?_
  refine Lp (V_asg rfl rfl) rfl rfl ?_
  refine Lnil ?_
  refine thenN ?_
  refine AW.seq ?_
  refine AW.reg ?_
  refine Lp (V_move rfl rfl) rfl rfl ?_
  refine Ls rfl rfl (X_call rfl Tryd.func10 rfl rfl rfl (ACalls.mono h ?_))
  rintro v σ ⟨x17_1, x17_2, rfl, h⟩
  refine Lp (V_move rfl rfl) rfl rfl ?_
  refine Lp (V_ext rfl rfl rfl) rfl rfl ?_
  refine Lp (V_ext rfl rfl rfl) rfl rfl ?_
  refine Lp (V_asg rfl rfl) rfl rfl ?_
  refine Lp (V_asg rfl rfl) rfl rfl ?_
  refine Lnil ?_
  refine thenN ?_
  refine AW.seq ?_
  refine AW.block ?_
  refine AW.seq ?_
  refine AW.reg ?_
  refine Lp (V_move rfl rfl) rfl rfl ?_
  refine Lp (V_neq rfl rfl rfl) rfl rfl ?_
  refine Lp (V_asg rfl rfl) rfl rfl ?_
  refine Lnil ?_
  refine thenN ?_
  refine AW.iff rfl (bnot_iff decide_eq_true_iff) h (fun h => ?_) (fun h => ?_)
  · refine AW.seq ?_
    refine AW.reg ?_
    refine Lp (V_move rfl rfl) rfl rfl ?_
    refine Lp (V_asg rfl rfl) rfl rfl ?_
    refine Lp (V_asg rfl rfl) rfl rfl ?_
    refine Lnil ?_
    refine thenN ?_
    refine AW.ret ?_
    refine blockR ?_
    refine thenR ?_
    exact bR2 Tryd.results5 rfl rfl ⟨_, _, rfl, h⟩
  refine AW.seq ?_
  refine AW.reg ?_
  refine Lp (V_move rfl rfl) rfl rfl ?_
  refine Lp (V_lenL rfl rfl Tryd.underlying36 rfl rfl) rfl rfl ?_
  refine Lp (V_gtr rfl rfl rfl) rfl rfl ?_
  refine Lp (V_asg rfl rfl) rfl rfl ?_
  refine Lnil ?_
  refine thenN ?_
  refine AW.iff rfl decide_eq_true_iff h (fun h => ?_) (fun h => ?_)
  · refine AW.seq ?_
    refine AW.reg ?_
    refine Lp (V_asg rfl rfl) rfl rfl ?_
    refine Lp (V_asg rfl rfl) rfl rfl ?_
    refine Lnil ?_
    refine thenN ?_
    refine AW.ret ?_
    refine blockR ?_
    refine thenR ?_
    exact bR2 Tryd.results5 rfl rfl ⟨_, _, rfl, h⟩
  refine AW.seq ?_
  refine AW.reg ?_
  refine Lp (V_move rfl rfl) rfl rfl ?_
  refine Lp (V_lss rfl rfl rfl) rfl rfl ?_
  refine Lp (V_move rfl rfl) rfl rfl ?_
  refine Lsplit 3 (decide (a3 < 0)) [(0, .pointer a0), (1, .string a1), (2, Sl.v a2), (3, .int .i64 a3), (4, .bool a4), (12, .string x17_1), (34, .bool ((decide (a3 < 0)) || (decide (4611686018427387903 < a3))))] ?_ ?_ ?_
  · intro e2 hk2
    refine Ln rfl rfl rfl rfl (.inl (by rw [e2]; rfl)) ?_
    refine Ln rfl rfl rfl rfl (.inl (by rw [e2]; rfl)) ?_
    refine Lp (V_pickT rfl (evb e2) rfl) rfl rfl ?_
    exact hk2 _ (FrLe.cons rfl (FrLe.cons rfl (FrLe.cons rfl (FrLe.cons rfl (FrLe.cons rfl (FrLe.cons rfl (FrLe.cons (by rw [e2]; rfl) (FrLe.nil _))))))))
  · intro e2 hk2
    refine Lypb (V_move rfl rfl) rfl rfl rfl rfl e2 ?_
    refine Lypb (V_gtr rfl rfl rfl) rfl rfl rfl rfl e2 ?_
    refine Lp (V_pickF rfl (evb e2) rfl) rfl rfl ?_
    exact hk2 _ (FrLe.cons rfl (FrLe.cons rfl (FrLe.cons rfl (FrLe.cons rfl (FrLe.cons rfl (FrLe.cons rfl (FrLe.cons (by rw [e2]; rfl) (FrLe.nil _))))))))
  intro fr hl
  refine Lfr hl ?_
  refine Lp (V_asg rfl rfl) rfl rfl ?_
  refine Lnil ?_
  refine thenN ?_
  refine AW.iff rfl (bor_iff decide_eq_true_iff decide_eq_true_iff) h (fun h => ?_) (fun h => ?_)
  · refine AW.seq ?_
    refine AW.reg ?_
    refine Lp (V_asg rfl rfl) rfl rfl ?_
    refine Lp (V_asg rfl rfl) rfl rfl ?_
    refine Lnil ?_
    refine thenN ?_
    refine AW.ret ?_
    refine blockR ?_
    refine thenR ?_
    exact bR2 Tryd.results5 rfl rfl ⟨_, _, rfl, h⟩
  refine AW.skip ?_
  refine blockN ?_
  refine thenN ?_
  refine AW.seq ?_
  refine AW.reg ?_
  refine Lp (V_move rfl rfl) rfl rfl ?_
  obtain ⟨p36_3, hc, h⟩ := h
  refine Lp (V_nil rfl (by rw [← hc]; rfl)) rfl rfl ?_
  refine Lp (V_fld rfl Tryd.underlying41 rfl ty39 (by decide) rfl) rfl rfl ?_
  obtain ⟨x38_4, hc, h⟩ := h
  refine Ls rfl rfl (X_ld rfl Tryd.underlying39 rfl rfl hc ?_)
  refine Lp (V_move rfl rfl) rfl rfl ?_
  refine Ls rfl rfl (X_lkp rfl rfl rfl (awp_mono _ h ?_))
  rintro v σ ⟨x40_5, rfl, h⟩
  refine Lp (V_asg rfl rfl) rfl rfl ?_
  refine Lnil ?_
  refine thenN ?_
  refine AW.seq ?_
  refine AW.block ?_
  refine AW.seq ?_
  refine AW.reg ?_
  refine Lp (V_move rfl rfl) rfl rfl ?_
  refine Lp (V_eqP rfl Tryd.underlying33 rfl rfl) rfl rfl ?_
  refine Lp (V_asg rfl rfl) rfl rfl ?_
  refine Lnil ?_
  refine thenN ?_
  refine AW.iff rfl isNone_iff h (fun h => ?_) (fun h => ?_)
  · refine AW.seq ?_
    refine AW.reg ?_
    refine Lp (V_asg rfl rfl) rfl rfl ?_
    refine Lp (V_asg rfl rfl) rfl rfl ?_
    refine Lnil ?_
    refine thenN ?_
    refine AW.ret ?_
    refine blockR ?_
    refine thenR ?_
    exact bR2 Tryd.results5 rfl rfl ⟨_, _, rfl, h⟩
  refine AW.seq ?_
  refine AW.reg ?_
  refine Lp (V_move rfl rfl) rfl rfl ?_
  obtain ⟨p46_6, hc, h⟩ := h
  refine Lp (V_nil rfl (by rw [← hc]; rfl)) rfl rfl ?_
  refine Lp (V_fld rfl Tryd.underlying38 rfl ty35 (by decide) rfl) rfl rfl ?_
  refine Lp (V_fld rfl Tryd.underlying35 rfl ty3 (by decide) rfl) rfl rfl ?_
  obtain ⟨x49_7, hc, h⟩ := h
  refine Ls rfl rfl (X_ld rfl Tryd.underlying3 rfl rfl hc ?_)
  refine Lp (V_neq rfl rfl rfl) rfl rfl ?_
  refine Lp (V_asg rfl rfl) rfl rfl ?_
  refine Lnil ?_
  refine thenN ?_
  refine AW.iff rfl (bnot_iff decide_eq_true_iff) h (fun h => ?_) (fun h => ?_)
  · refine AW.seq ?_
    refine AW.reg ?_
    refine Lp (V_asg rfl rfl) rfl rfl ?_
    refine Lp (V_asg rfl rfl) rfl rfl ?_
    refine Lnil ?_
    refine thenN ?_
    refine AW.ret ?_
    refine blockR ?_
    refine thenR ?_
    exact bR2 Tryd.results5 rfl rfl ⟨_, _, rfl, h⟩
  refine AW.seq ?_
  refine AW.reg ?_
  refine Lp (V_move rfl rfl) rfl rfl ?_
  obtain ⟨p53_8, hc, h⟩ := h
  refine Lp (V_nil rfl (by rw [← hc]; rfl)) rfl rfl ?_
  refine Lp (V_fld rfl Tryd.underlying38 rfl ty35 (by decide) rfl) rfl rfl ?_
  refine Lp (V_fld rfl Tryd.underlying35 rfl ty3 (by decide) rfl) rfl rfl ?_
  obtain ⟨x56_9, hc, h⟩ := h
  refine Ls rfl rfl (X_ld rfl Tryd.underlying3 rfl rfl hc ?_)
  refine Lp (V_gtr rfl rfl rfl) rfl rfl ?_
  refine Lp (V_asg rfl rfl) rfl rfl ?_
  refine Lnil ?_
  refine thenN ?_
  refine AW.iff rfl decide_eq_true_iff h (fun h => ?_) (fun h => ?_)
  · refine AW.seq ?_
    refine AW.reg ?_
    refine Lp (V_asg rfl rfl) rfl rfl ?_
    refine Lp (V_asg rfl rfl) rfl rfl ?_
    refine Lnil ?_
    refine thenN ?_
    refine AW.ret ?_
    refine blockR ?_
    refine thenR ?_
    exact bR2 Tryd.results5 rfl rfl ⟨_, _, rfl, h⟩
  refine AW.skip ?_
  refine blockN ?_
  refine thenN ?_
  refine AW.seqJ (fun fr σ => ∃ (x1_11 : ByteArray), FrLe [(0, .pointer a0), (2, Sl.v a2), (3, .int .i64 a3), (14, .pointer x40_5), (1, .string x1_11)] fr ∧ j10_ztree_Tree_Create B ro a0 a2 a3 x40_5 Q x1_11 σ) ?_ ?_
  rotate_left
  · refine AW.seq ?_
    refine AW.reg ?_
    refine Lp (V_move rfl rfl) rfl rfl ?_
    refine Lnil ?_
    refine thenN ?_
    refine AW.iff rfl Iff.rfl h (fun h => ?_) (fun h => ?_)
    rotate_left
    · refine AW.skip ?_
      refine thenN ?_
      exact ⟨_, (FrLe.cons rfl (FrLe.cons rfl (FrLe.cons rfl (FrLe.cons rfl (FrLe.cons rfl (FrLe.nil _)))))), h⟩
    refine AW.seq ?_
    refine AW.reg ?_
    refine Lp (V_move rfl rfl) rfl rfl ?_
    refine Lp (V_move rfl rfl) rfl rfl ?_
    obtain ⟨p62_25, hc, h⟩ := h
    refine Lp (V_nil rfl (by rw [← hc]; rfl)) rfl rfl ?_
    refine Lp (V_fld rfl Tryd.underlying38 rfl ty35 (by decide) rfl) rfl rfl ?_
    refine Lp (V_fld rfl Tryd.underlying35 rfl ty3 (by decide) rfl) rfl rfl ?_
    obtain ⟨x65_26, hc, h⟩ := h
    refine Ls rfl rfl (X_ld rfl Tryd.underlying3 rfl rfl hc ?_)
    refine Ls rfl rfl (X_call rfl Tryd.func11 rfl rfl rfl (ACalls.mono h ?_))
    rintro v σ ⟨x66_27, x66_28, rfl, h⟩
    refine Lp (V_move rfl rfl) rfl rfl ?_
    refine Lp (V_ext rfl rfl rfl) rfl rfl ?_
    refine Lp (V_ext rfl rfl rfl) rfl rfl ?_
    refine Lp (V_asg rfl rfl) rfl rfl ?_
    refine Lp (V_asg rfl rfl) rfl rfl ?_
    refine Lnil ?_
    refine thenN ?_
    refine AW.seq ?_
    refine AW.reg ?_
    refine Lp (V_move rfl rfl) rfl rfl ?_
    refine Lp (V_neq rfl rfl rfl) rfl rfl ?_
    refine Lnil ?_
    refine thenN ?_
    refine AW.iff rfl (bnot_iff decide_eq_true_iff) h (fun h => ?_) (fun h => ?_)
    rotate_left
    · refine AW.skip ?_
      refine thenN ?_
      exact ⟨_, (FrLe.cons rfl (FrLe.cons rfl (FrLe.cons rfl (FrLe.cons rfl (FrLe.cons rfl (FrLe.nil _)))))), h⟩
    refine AW.seq ?_
    refine AW.reg ?_
    refine Lp (V_move rfl rfl) rfl rfl ?_
    refine Lp (V_asg rfl rfl) rfl rfl ?_
    refine Lp (V_asg rfl rfl) rfl rfl ?_
    refine Lnil ?_
    refine thenN ?_
    refine AW.ret ?_
    refine thenR ?_
    exact bR2 Tryd.results5 rfl rfl ⟨_, _, rfl, h⟩
  rintro fr σ ⟨x1_11, hl, h⟩
  refine AW.weaken ?_ hl (HLe.refl _)
  unfold j10_ztree_Tree_Create at h
  refine AW.seq ?_
  refine AW.seq ?_
  refine AW.reg ?_
  refine Lp (V_move rfl rfl) rfl rfl ?_
  obtain ⟨p73_12, hc, h⟩ := h
  refine Lp (V_nil rfl (by rw [← hc]; rfl)) rfl rfl ?_
  refine Lp (V_fld rfl Tryd.underlying41 rfl ty39 (by decide) rfl) rfl rfl ?_
  obtain ⟨x75_13, hc, h⟩ := h
  refine Ls rfl rfl (X_ld rfl Tryd.underlying39 rfl rfl hc ?_)
  refine Lp (V_move rfl rfl) rfl rfl ?_
  refine Ls rfl rfl (X_lkp rfl rfl rfl (awp_mono _ h ?_))
  rintro v σ ⟨x77_14, rfl, h⟩
  refine Lp (V_neP rfl Tryd.underlying33 rfl rfl) rfl rfl ?_
  refine Lnil ?_
  refine thenN ?_
  refine AW.iff rfl (bnot_iff isNone_iff) h (fun h => ?_) (fun h => ?_)
  · refine AW.seq ?_
    refine AW.reg ?_
    refine Lp (V_asg rfl rfl) rfl rfl ?_
    refine Lp (V_asg rfl rfl) rfl rfl ?_
    refine Lnil ?_
    refine thenN ?_
    refine AW.ret ?_
    refine thenR ?_
    exact bR2 Tryd.results5 rfl rfl ⟨_, _, rfl, h⟩
  refine AW.skip ?_
  refine thenN ?_
  refine AW.seq ?_
  refine AW.drawnL (fun i => ([0, 0, 0, 0, 0, 0, 0, 0, 2, 0, 1, 2] : List Nat).getD i 2) [] [0, 1, 2, 3, 4, 5, 6, 7, 8, 9, 10, 11] Tryd.mixed h (by decide +kernel) ?_
  clear h
  intro ψ σ h
  refine Dp rfl rfl rfl rfl (V_move rfl rfl) ?_
  obtain ⟨p80_15, hc, h⟩ := h
  refine Dp rfl rfl rfl rfl (V_nil rfl (by rw [← hc]; rfl)) ?_
  refine Dp rfl rfl rfl rfl (V_fld rfl Tryd.underlying41 rfl ty39 (by decide) rfl) ?_
  obtain ⟨x82_16, hc, h⟩ := h
  refine Dp rfl rfl rfl rfl (V_ld rfl Tryd.underlying39 rfl rfl hc) ?_
  refine Dp rfl rfl rfl rfl (V_move rfl rfl) ?_
  refine Dp rfl rfl rfl rfl (V_move rfl rfl) ?_
  refine Dp rfl rfl rfl rfl (V_bld (vs := [(2, .int .i64 a3)]) (cs := #[.int .i64 0, .int .i64 0, .int .i64 a3, .int .i64 0]) rfl Tryd.underlying35 ty35 pl35 rfl rfl) ?_
  refine Dp rfl rfl rfl rfl (V_move rfl rfl) ?_
  refine Dg rfl rfl rfl rfl (X_call rfl Tryd.func12 rfl rfl rfl (ACalls.mono h ?_))
  rintro v σ ⟨x87_17, rfl, h⟩
  refine Dp rfl rfl rfl rfl (V_bld (vs := [(0, .agg #[.int .i64 0, .int .i64 0, .int .i64 a3, .int .i64 0]), (1, Sl.v x87_17)]) (cs := #[.int .i64 0, .int .i64 0, .int .i64 a3, .int .i64 0, Sl.v x87_17]) rfl Tryd.underlying38 ty38 pl38 rfl rfl) ?_
  refine Da rfl rfl rfl rfl (A_box rfl rfl) fun x89_18 g1 g2 => ?_
  replace h := h x89_18 g1 g2
  refine Dg rfl rfl rfl rfl (X_mup (.inl rfl) rfl rfl rfl (awp_mono _ h ?_))
  rintro _ σ h
  refine ⟨_, FrEq.refl _, fun hdj => ?_⟩
  replace h := h hdj
  refine thenN ?_
  refine AW.seq ?_
  refine AW.reg ?_
  refine Lp (V_move rfl rfl) rfl rfl ?_
  obtain ⟨p91_19, hc, h⟩ := h
  refine Lp (V_nil rfl (by rw [← hc]; rfl)) rfl rfl ?_
  refine Lp (V_fld rfl Tryd.underlying38 rfl ty35 (by decide) rfl) rfl rfl ?_
  refine Lp (V_fld rfl Tryd.underlying35 rfl ty3 (by decide) rfl) rfl rfl ?_
  obtain ⟨x94_20, hc, h⟩ := h
  refine Ls rfl rfl (X_ld rfl Tryd.underlying3 rfl rfl hc ?_)
  refine Lp (V_add rfl rfl rfl) rfl rfl ?_
  obtain ⟨p96_21, hc, h⟩ := h
  refine Lp (V_nil rfl (by rw [← hc]; rfl)) rfl rfl ?_
  refine Lp (V_fld rfl Tryd.underlying38 rfl ty35 (by decide) rfl) rfl rfl ?_
  refine Lp (V_fld rfl Tryd.underlying35 rfl ty3 (by decide) rfl) rfl rfl ?_
  refine Ls rfl rfl (X_st rfl ty3 rfl rfl rfl rfl (stN_mono h fun σ h => ?_))
  refine Lnil ?_
  refine thenN ?_
  refine AW.seq ?_
  refine AW.reg ?_
  refine Lp (V_move rfl rfl) rfl rfl ?_
  obtain ⟨p100_22, hc, h⟩ := h
  refine Lp (V_nil rfl (by rw [← hc]; rfl)) rfl rfl ?_
  refine Lp (V_fld rfl Tryd.underlying38 rfl ty35 (by decide) rfl) rfl rfl ?_
  refine Lp (V_fld rfl Tryd.underlying35 rfl ty3 (by decide) rfl) rfl rfl ?_
  obtain ⟨x103_23, hc, h⟩ := h
  refine Ls rfl rfl (X_ld rfl Tryd.underlying3 rfl rfl hc ?_)
  refine Lp (V_add rfl rfl rfl) rfl rfl ?_
  obtain ⟨p105_24, hc, h⟩ := h
  refine Lp (V_nil rfl (by rw [← hc]; rfl)) rfl rfl ?_
  refine Lp (V_fld rfl Tryd.underlying38 rfl ty35 (by decide) rfl) rfl rfl ?_
  refine Lp (V_fld rfl Tryd.underlying35 rfl ty3 (by decide) rfl) rfl rfl ?_
  refine Ls rfl rfl (X_st rfl ty3 rfl rfl rfl rfl (stN_mono h fun σ h => ?_))
  refine Lnil ?_
  refine thenN ?_
  refine AW.seq ?_
  refine AW.reg ?_
  refine Lp (V_move rfl rfl) rfl rfl ?_
  refine Lp (V_asg rfl rfl) rfl rfl ?_
  refine Lp (V_asg rfl rfl) rfl rfl ?_
  refine Lnil ?_
  refine thenN ?_
  refine AW.ret ?_
  exact bR2 Tryd.results5 rfl rfl ⟨_, _, rfl, h⟩

def f_ztree_Tree_Delete (B : World) (ro : AH) (a0 : Option Addr) (a1 : ByteArray) (a2 : Int) (σ : AH) (Q : Int → AH → Prop) : Prop :=
 c_ztree_Tree_check B ro a0 a1 a2 σ fun x15_1 x15_2 σ =>
 if ¬ (x15_2 = 0) then
  Q x15_2 σ
 else
 ∃ p24_3 : Addr, x15_1 = some p24_3 ∧
 ∃ (x27_4 : Int), acell ro σ (p24_3.add 3) = some (.int .i64 x27_4) ∧
 if 0 < x27_4 then
  Q 73 σ
 else
 c_path_Parent B ro a1 σ fun x31_5 x31_6 σ =>
 ∃ p35_7 : Addr, a0 = some p35_7 ∧
 ∃ (x37_8 : Option Nat), acell ro σ p35_7 = some (.map x37_8) ∧
 awp Tryd.prog ro (Instr.lookup 39 (.map x37_8) (.string x31_5) false) (fun v σ =>
  (∃ (x39_9 : Option Addr), v = .pointer x39_9 ∧
   ∃ p40_10 : Addr, x39_9 = some p40_10 ∧
   ∃ (x43_11 : Int), acell ro σ (p40_10.add 3) = some (.int .i64 x43_11) ∧
   ∃ p45_12 : Addr, x39_9 = some p45_12 ∧
   stN (p45_12.add 3) (fun σ =>
    ∃ p49_13 : Addr, a0 = some p49_13 ∧
    ∃ (x51_14 : Option Nat), acell ro σ p49_13 = some (.map x51_14) ∧
    awp Tryd.prog ro (Builtin.delete_ #[39, 9] 0 #[.map x51_14, .string a1]) (fun v σ => v = .tuple #[] ∧
     Q 0 σ) σ) [.int .i64 (IntKind.i64.wrap (x43_11 - 1))] 0 σ)) σ

set_option maxRecDepth 100000 in
set_option maxHeartbeats 4000000 in
theorem ztree_Tree_Delete_ok {B : World} {ro : AH} {a0 : Option Addr} {a1 : ByteArray} {a2 : Int} {σ : AH} {Q : Int → AH → Prop} (h : Sep ro σ → f_ztree_Tree_Delete B ro a0 a1 a2 σ Q) : c_ztree_Tree_Delete B ro a0 a1 a2 σ Q := by
  refine ACalls.of_sep fun hsep => ?_
  replace h := h hsep
  refine ACalls.of_body (args := [.pointer a0, .string a1, .int .i64 a2]) Tryd.func9 rfl (by rw [Tryd.ntmps9]; simp) ?_
  rw [Tryd.ntmps9]
  unfold f_ztree_Tree_Delete at h
  refine AW.seq ?_
  refine AW.reg ?_
  refine Lp (V_asg rfl rfl) rfl rfl ?_
  refine Lnil ?_
  refine thenN ?_
  refine AW.seq ?_
  refine AW.reg ?_
  refine Lp (V_move rfl rfl) rfl rfl ?_
  refine Lp (V_move rfl rfl) rfl rfl ?_
  refine Lp (V_move rfl rfl) rfl rfl ?_
  refine Ls rfl rfl (X_call rfl Tryd.func14 rfl rfl rfl (ACalls.mono h ?_))
  rintro v σ ⟨x15_1, x15_2, rfl, h⟩
  refine Lp (V_move rfl rfl) rfl rfl ?_
  refine Lp (V_ext rfl rfl rfl) rfl rfl ?_
  refine Lp (V_ext rfl rfl rfl) rfl rfl ?_
  refine Lp (V_asg rfl rfl) rfl rfl ?_
  refine Lp (V_asg rfl rfl) rfl rfl ?_
  refine Lnil ?_
  refine thenN ?_
  refine AW.seq ?_
  refine AW.block ?_
  refine AW.seq ?_
  refine AW.reg ?_
  refine Lp (V_move rfl rfl) rfl rfl ?_
  refine Lp (V_neq rfl rfl rfl) rfl rfl ?_
  refine Lp (V_asg rfl rfl) rfl rfl ?_
  refine Lnil ?_
  refine thenN ?_
  refine AW.iff rfl (bnot_iff decide_eq_true_iff) h (fun h => ?_) (fun h => ?_)
  · refine AW.seq ?_
    refine AW.reg ?_
    refine Lp (V_move rfl rfl) rfl rfl ?_
    refine Lp (V_asg rfl rfl) rfl rfl ?_
    refine Lnil ?_
    refine thenN ?_
    refine AW.ret ?_
    refine blockR ?_
    refine thenR ?_
    exact bR1 Tryd.results9 rfl ⟨_, rfl, h⟩
  refine AW.seq ?_
  refine AW.reg ?_
  refine Lp (V_move rfl rfl) rfl rfl ?_
  obtain ⟨p24_3, hc, h⟩ := h
  refine Lp (V_nil rfl (by rw [← hc]; rfl)) rfl rfl ?_
  refine Lp (V_fld rfl Tryd.underlying38 rfl ty35 (by decide) rfl) rfl rfl ?_
  refine Lp (V_fld rfl Tryd.underlying35 rfl ty3 (by decide) rfl) rfl rfl ?_
  obtain ⟨x27_4, hc, h⟩ := h
  refine Ls rfl rfl (X_ld rfl Tryd.underlying3 rfl rfl hc ?_)
  refine Lp (V_gtr rfl rfl rfl) rfl rfl ?_
  refine Lp (V_asg rfl rfl) rfl rfl ?_
  refine Lnil ?_
  refine thenN ?_
  refine AW.iff rfl decide_eq_true_iff h (fun h => ?_) (fun h => ?_)
  · refine AW.seq ?_
    refine AW.reg ?_
    refine Lp (V_asg rfl rfl) rfl rfl ?_
    refine Lnil ?_
    refine thenN ?_
    refine AW.ret ?_
    refine blockR ?_
    refine thenR ?_
    exact bR1 Tryd.results9 rfl ⟨_, rfl, h⟩
  refine AW.skip ?_
  refine blockN ?_
  refine thenN ?_
  refine AW.seq ?_
  refine AW.reg ?_
  refine Lp (V_move rfl rfl) rfl rfl ?_
  refine Ls rfl rfl (X_call rfl Tryd.func10 rfl rfl rfl (ACalls.mono h ?_))
  rintro v σ ⟨x31_5, x31_6, rfl, h⟩
  refine Lp (V_move rfl rfl) rfl rfl ?_
  refine Lp (V_ext rfl rfl rfl) rfl rfl ?_
  refine Lp (V_ext rfl rfl rfl) rfl rfl ?_
  refine Lp (V_asg rfl rfl) rfl rfl ?_
  refine Lp (V_asg rfl rfl) rfl rfl ?_
  refine Lnil ?_
  refine thenN ?_
  refine AW.seq ?_
  refine AW.reg ?_
  refine Lp (V_move rfl rfl) rfl rfl ?_
  obtain ⟨p35_7, hc, h⟩ := h
  refine Lp (V_nil rfl (by rw [← hc]; rfl)) rfl rfl ?_
  refine Lp (V_fld rfl Tryd.underlying41 rfl ty39 (by decide) rfl) rfl rfl ?_
  obtain ⟨x37_8, hc, h⟩ := h
  refine Ls rfl rfl (X_ld rfl Tryd.underlying39 rfl rfl hc ?_)
  refine Lp (V_move rfl rfl) rfl rfl ?_
  refine Ls rfl rfl (X_lkp rfl rfl rfl (awp_mono _ h ?_))
  rintro v σ ⟨x39_9, rfl, h⟩
  obtain ⟨p40_10, hc, h⟩ := h
  refine Lp (V_nil rfl (by rw [← hc]; rfl)) rfl rfl ?_
  refine Lp (V_fld rfl Tryd.underlying38 rfl ty35 (by decide) rfl) rfl rfl ?_
  refine Lp (V_fld rfl Tryd.underlying35 rfl ty3 (by decide) rfl) rfl rfl ?_
  obtain ⟨x43_11, hc, h⟩ := h
  refine Ls rfl rfl (X_ld rfl Tryd.underlying3 rfl rfl hc ?_)
  refine Lp (V_sub rfl rfl rfl) rfl rfl ?_
  obtain ⟨p45_12, hc, h⟩ := h
  refine Lp (V_nil rfl (by rw [← hc]; rfl)) rfl rfl ?_
  refine Lp (V_fld rfl Tryd.underlying38 rfl ty35 (by decide) rfl) rfl rfl ?_
  refine Lp (V_fld rfl Tryd.underlying35 rfl ty3 (by decide) rfl) rfl rfl ?_
  refine Ls rfl rfl (X_st rfl ty3 rfl rfl rfl rfl (stN_mono h fun σ h => ?_))
  refine Lnil ?_
  refine thenN ?_
  refine AW.seq ?_
  refine AW.reg ?_
  refine Lp (V_move rfl rfl) rfl rfl ?_
  obtain ⟨p49_13, hc, h⟩ := h
  refine Lp (V_nil rfl (by rw [← hc]; rfl)) rfl rfl ?_
  refine Lp (V_fld rfl Tryd.underlying41 rfl ty39 (by decide) rfl) rfl rfl ?_
  obtain ⟨x51_14, hc, h⟩ := h
  refine Ls rfl rfl (X_ld rfl Tryd.underlying39 rfl rfl hc ?_)
  refine Lp (V_move rfl rfl) rfl rfl ?_
  refine Ls rfl rfl (X_bi (s := Builtin.delete_ #[39, 9] 0 #[.map x51_14, .string a1]) rfl rfl (fun _ => rfl) (awp_mono _ h ?_))
  rintro v σ ⟨rfl, h⟩
  refine Lnil ?_
  refine thenN ?_
  refine AW.seq ?_
  refine AW.reg ?_
  refine Lp (V_asg rfl rfl) rfl rfl ?_
  refine Lnil ?_
  refine thenN ?_
  refine AW.ret ?_
  exact bR1 Tryd.results9 rfl ⟨_, rfl, h⟩

def f_ztree_Tree_Size (B : World) (ro : AH) (a0 : Option Addr) (σ : AH) (Q : Int → AH → Prop) : Prop :=
 ∃ p4_1 : Addr, a0 = some p4_1 ∧
 ∃ (x6_2 : Option Nat), acell ro σ p4_1 = some (.map x6_2) ∧
 awp Tryd.prog ro (Builtin.len_ #[39] 3 #[.map x6_2]) (fun v σ => ∃ (x7_3 : Int), v = .int .i64 x7_3 ∧
  Q x7_3 σ) σ

set_option maxRecDepth 100000 in
set_option maxHeartbeats 4000000 in
theorem ztree_Tree_Size_ok {B : World} {ro : AH} {a0 : Option Addr} {σ : AH} {Q : Int → AH → Prop} (h : Sep ro σ → f_ztree_Tree_Size B ro a0 σ Q) : c_ztree_Tree_Size B ro a0 σ Q := by
  refine ACalls.of_sep fun hsep => ?_
  replace h := h hsep
  refine ACalls.of_body (args := [.pointer a0]) Tryd.func13 rfl (by rw [Tryd.ntmps13]; simp) ?_
  rw [Tryd.ntmps13]
  unfold f_ztree_Tree_Size at h
  refine AW.seq ?_
  refine AW.reg ?_
  refine Lp (V_asg rfl rfl) rfl rfl ?_
  refine Lnil ?_
  refine thenN ?_
  refine AW.seq ?_
  refine AW.reg ?_
  refine Lp (V_move rfl rfl) rfl rfl ?_
  obtain ⟨p4_1, hc, h⟩ := h
  refine Lp (V_nil rfl (by rw [← hc]; rfl)) rfl rfl ?_
  refine Lp (V_fld rfl Tryd.underlying41 rfl ty39 (by decide) rfl) rfl rfl ?_
  obtain ⟨x6_2, hc, h⟩ := h
  refine Ls rfl rfl (X_ld rfl Tryd.underlying39 rfl rfl hc ?_)
  refine Ls rfl rfl (X_bi (s := Builtin.len_ #[39] 3 #[.map x6_2]) rfl rfl (fun _ => rfl) (awp_mono _ h ?_))
  rintro v σ ⟨x7_3, rfl, h⟩
  refine Lp (V_asg rfl rfl) rfl rfl ?_
  refine Lnil ?_
  refine thenN ?_
  refine AW.ret ?_
  exact bR1 Tryd.results13 rfl ⟨_, rfl, h⟩

def j3_ztree_Tree_check (B : World) (ro : AH) (x15_1 : Option Addr) (x15_2 : Int) (Q : Option Addr → Int → AH → Prop) (x32_4 : Bool) (σ : AH) : Prop :=
 if x32_4 = true then
  Q none 72 σ
 else
 Q x15_1 x15_2 σ

def f_ztree_Tree_check (B : World) (ro : AH) (a0 : Option Addr) (a1 : ByteArray) (a2 : Int) (σ : AH) (Q : Option Addr → Int → AH → Prop) : Prop :=
 if a1 = (⟨#[47]⟩ : ByteArray) then
  Q none 20 σ
 else
 c_ztree_Tree_find B ro a0 a1 σ fun x15_1 x15_2 σ =>
 if (x15_2 = 0) ∧ (¬ (a2 = (-1))) then
  ∃ p27_5 : Addr, x15_1 = some p27_5 ∧
  ∃ (x30_6 : Int), acell ro σ p27_5 = some (.int .i64 x30_6) ∧
  j3_ztree_Tree_check B ro x15_1 x15_2 Q (!(decide (a2 = x30_6))) σ
 else
 j3_ztree_Tree_check B ro x15_1 x15_2 Q false σ

set_option maxRecDepth 100000 in
set_option maxHeartbeats 4000000 in
theorem ztree_Tree_check_ok {B : World} {ro : AH} {a0 : Option Addr} {a1 : ByteArray} {a2 : Int} {σ : AH} {Q : Option Addr → Int → AH → Prop} (h : Sep ro σ → f_ztree_Tree_check B ro a0 a1 a2 σ Q) : c_ztree_Tree_check B ro a0 a1 a2 σ Q := by
  refine ACalls.of_sep fun hsep => ?_
  replace h := h hsep
  refine ACalls.of_body (args := [.pointer a0, .string a1, .int .i64 a2]) Tryd.func14 rfl (by rw [Tryd.ntmps14]; simp) ?_
  rw [Tryd.ntmps14]
  unfold f_ztree_Tree_check at h
  refine AW.seq ?_
  refine AW.reg ?_
  refine Lp (V_asg rfl rfl) rfl rfl ?_
  refine Lp (V_asg rfl rfl) rfl rfl ?_
  refine Lnil ?_
  refine thenN ?_
  refine AW.seq ?_
  refine AW.seq ?_
  refine AW.reg ?_
  refine Lp (V_move rfl rfl) rfl rfl ?_
  refine Lp (V_eqlS rfl rfl rfl) rfl rfl ?_
  refine Lnil ?_
  refine thenN ?_
  refine AW.iff rfl decide_eq_true_iff h (fun h => ?_) (fun h => ?_)
  · refine AW.seq ?_
    refine AW.reg ?_
    refine Lp (V_asg rfl rfl) rfl rfl ?_
    refine Lp (V_asg rfl rfl) rfl rfl ?_
    refine Lnil ?_
    refine thenN ?_
    refine AW.ret ?_
    refine thenR ?_
    exact bR2 Tryd.results14 rfl rfl ⟨_, _, rfl, h⟩
  refine AW.skip ?_
  refine thenN ?_
  refine AW.seq ?_
  refine AW.reg ?_
  refine Lp (V_move rfl rfl) rfl rfl ?_
  refine Lp (V_move rfl rfl) rfl rfl ?_
  refine Ls rfl rfl (X_call rfl Tryd.func19 rfl rfl rfl (ACalls.mono h ?_))
  rintro v σ ⟨x15_1, x15_2, rfl, h⟩
  refine Lp (V_move rfl rfl) rfl rfl ?_
  refine Lp (V_ext rfl rfl rfl) rfl rfl ?_
  refine Lp (V_ext rfl rfl rfl) rfl rfl ?_
  refine Lp (V_asg rfl rfl) rfl rfl ?_
  refine Lp (V_asg rfl rfl) rfl rfl ?_
  refine Lnil ?_
  refine thenN ?_
  refine AW.seq ?_
  refine AW.seq ?_
  refine AW.reg ?_
  refine Lp (V_move rfl rfl) rfl rfl ?_
  refine Lp (V_eql rfl rfl rfl) rfl rfl ?_
  refine Lp (V_move rfl rfl) rfl rfl ?_
  refine Lsplit 3 (decide (x15_2 = 0)) [(2, .int .i64 a2), (8, .pointer x15_1), (9, .int .i64 x15_2), (23, .bool ((decide (x15_2 = 0)) && (!(decide (a2 = (-1))))))] ?_ ?_ ?_
  · intro e2 hk2
    refine Lypb (V_move rfl rfl) rfl rfl rfl rfl e2 ?_
    refine Lypb (V_neq rfl rfl rfl) rfl rfl rfl rfl e2 ?_
    refine Lp (V_pickT rfl (evb e2) rfl) rfl rfl ?_
    exact hk2 _ (FrLe.cons rfl (FrLe.cons rfl (FrLe.cons rfl (FrLe.cons (by rw [e2]; rfl) (FrLe.nil _)))))
  · intro e2 hk2
    refine Ln rfl rfl rfl rfl (.inl (by rw [e2]; rfl)) ?_
    refine Ln rfl rfl rfl rfl (.inl (by rw [e2]; rfl)) ?_
    refine Lp (V_pickF rfl (evb e2) rfl) rfl rfl ?_
    exact hk2 _ (FrLe.cons rfl (FrLe.cons rfl (FrLe.cons rfl (FrLe.cons (by rw [e2]; rfl) (FrLe.nil _)))))
  intro fr hl
  refine Lfr hl ?_
  refine Lp (V_move rfl rfl) rfl rfl ?_
  refine LsplitJ 8 ((decide (x15_2 = 0)) && (!(decide (a2 = (-1))))) (band_iff decide_eq_true_iff (bnot_iff decide_eq_true_iff)) h (fun fr σ => ∃ (x32_4 : Bool), FrLe [(8, .pointer x15_1), (9, .int .i64 x15_2), (32, .bool x32_4)] fr ∧ j3_ztree_Tree_check B ro x15_1 x15_2 Q x32_4 σ) ?_ ?_ ?_
  · intro h e6 hk6
    refine Lypb (V_move rfl rfl) rfl rfl rfl rfl e6 ?_
    refine Lypb (V_move rfl rfl) rfl rfl rfl rfl e6 ?_
    obtain ⟨p27_5, hc, h⟩ := h
    refine Lypb (V_nil rfl (by rw [← hc]; rfl)) rfl rfl rfl rfl e6 ?_
    refine Lypb (V_fld rfl Tryd.underlying38 rfl ty35 (by decide) rfl) rfl rfl rfl rfl e6 ?_
    refine Lypb (V_fld rfl Tryd.underlying35 rfl ty3 (by decide) rfl) rfl rfl rfl rfl e6 ?_
    obtain ⟨x30_6, hc, h⟩ := h
    refine Lyb rfl rfl rfl rfl e6 (X_ld rfl Tryd.underlying3 rfl rfl hc ?_)
    refine Lypb (V_neq rfl rfl rfl) rfl rfl rfl rfl e6 ?_
    refine Lp (V_pickT rfl (evb e6) rfl) rfl rfl ?_
    exact hk6 _ _ ⟨_, (FrLe.cons rfl (FrLe.cons rfl (FrLe.cons rfl (FrLe.nil _)))), h⟩
  · intro h e6 hk6
    refine Ln rfl rfl rfl rfl (.inl (by rw [e6]; rfl)) ?_
    refine Ln rfl rfl rfl rfl (.inl (by rw [e6]; rfl)) ?_
    refine Ln rfl rfl rfl rfl (.inl (by rw [e6]; rfl)) ?_
    refine Ln rfl rfl rfl rfl (.inl (by rw [e6]; rfl)) ?_
    refine Ln rfl rfl rfl rfl (.inl (by rw [e6]; rfl)) ?_
    refine Ln rfl rfl rfl rfl (.inl (by rw [e6]; rfl)) ?_
    refine Ln rfl rfl rfl rfl (.inl (by rw [e6]; rfl)) ?_
    refine Lp (V_pickF rfl (evb e6) rfl) rfl rfl ?_
    exact hk6 _ _ ⟨_, (FrLe.cons rfl (FrLe.cons rfl (FrLe.cons rfl (FrLe.nil _)))), h⟩
  rintro fr σ ⟨x32_4, hl, h⟩
  unfold j3_ztree_Tree_check at h
  refine Lfr hl ?_
  refine Lnil ?_
  refine thenN ?_
  refine AW.iff rfl Iff.rfl h (fun h => ?_) (fun h => ?_)
  · refine AW.seq ?_
    refine AW.reg ?_
    refine Lp (V_asg rfl rfl) rfl rfl ?_
    refine Lp (V_asg rfl rfl) rfl rfl ?_
    refine Lnil ?_
    refine thenN ?_
    refine AW.ret ?_
    refine thenR ?_
    exact bR2 Tryd.results14 rfl rfl ⟨_, _, rfl, h⟩
  refine AW.skip ?_
  refine thenN ?_
  refine AW.seq ?_
  refine AW.reg ?_
  refine Lp (V_move rfl rfl) rfl rfl ?_
  refine Lp (V_move rfl rfl) rfl rfl ?_
  refine Lp (V_asg rfl rfl) rfl rfl ?_
  refine Lp (V_asg rfl rfl) rfl rfl ?_
  refine Lnil ?_
  refine thenN ?_
  refine AW.ret ?_
  exact bR2 Tryd.results14 rfl rfl ⟨_, _, rfl, h⟩

def f_ztree_Tree_find (B : World) (ro : AH) (a0 : Option Addr) (a1 : ByteArray) (σ : AH) (Q : Option Addr → Int → AH → Prop) : Prop :=
 c_path_Check B ro a1 σ fun x9_1 σ =>
 if ¬ (x9_1 = 0) then
  Q none x9_1 σ
 else
 ∃ p14_2 : Addr, a0 = some p14_2 ∧
 ∃ (x16_3 : Option Nat), acell ro σ p14_2 = some (.map x16_3) ∧
 awp Tryd.prog ro (Instr.lookup 39 (.map x16_3) (.string a1) false) (fun v σ =>
  (∃ (x18_4 : Option Addr), v = .pointer x18_4 ∧
   if x18_4 = none then
    Q none 70 σ
   else
   Q x18_4 0 σ)) σ

set_option maxRecDepth 100000 in
set_option maxHeartbeats 4000000 in
theorem ztree_Tree_find_ok {B : World} {ro : AH} {a0 : Option Addr} {a1 : ByteArray} {σ : AH} {Q : Option Addr → Int → AH → Prop} (h : Sep ro σ → f_ztree_Tree_find B ro a0 a1 σ Q) : c_ztree_Tree_find B ro a0 a1 σ Q := by
  refine ACalls.of_sep fun hsep => ?_
  replace h := h hsep
  refine ACalls.of_body (args := [.pointer a0, .string a1]) Tryd.func19 rfl (by rw [Tryd.ntmps19]; simp) ?_
  rw [Tryd.ntmps19]
  unfold f_ztree_Tree_find at h
  refine AW.seq ?_
  refine AW.reg ?_
  refine Lp (V_asg rfl rfl) rfl rfl ?_
  refine Lp (V_asg rfl rfl) rfl rfl ?_
  refine Lnil ?_
  refine thenN ?_
  refine AW.seq ?_
  refine AW.seq ?_
  refine AW.reg ?_
  refine Lp (V_move rfl rfl) rfl rfl ?_
  refine Ls rfl rfl (X_call rfl Tryd.func15 rfl rfl rfl (ACalls.mono h ?_))
  rintro v σ ⟨x9_1, rfl, h⟩
  refine Lp (V_asg rfl rfl) rfl rfl ?_
  refine Lnil ?_
  refine thenN ?_
  refine AW.seq ?_
  refine AW.reg ?_
  refine Lp (V_move rfl rfl) rfl rfl ?_
  refine Lp (V_neq rfl rfl rfl) rfl rfl ?_
  refine Lnil ?_
  refine thenN ?_
  refine AW.iff rfl (bnot_iff decide_eq_true_iff) h (fun h => ?_) (fun h => ?_)
  · refine AW.seq ?_
    refine AW.reg ?_
    refine Lp (V_move rfl rfl) rfl rfl ?_
    refine Lp (V_asg rfl rfl) rfl rfl ?_
    refine Lp (V_asg rfl rfl) rfl rfl ?_
    refine Lnil ?_
    refine thenN ?_
    refine AW.ret ?_
    refine thenR ?_
    exact bR2 Tryd.results19 rfl rfl ⟨_, _, rfl, h⟩
  refine AW.skip ?_
  refine thenN ?_
  refine AW.seq ?_
  refine AW.reg ?_
  refine Lp (V_move rfl rfl) rfl rfl ?_
  obtain ⟨p14_2, hc, h⟩ := h
  refine Lp (V_nil rfl (by rw [← hc]; rfl)) rfl rfl ?_
  refine Lp (V_fld rfl Tryd.underlying41 rfl ty39 (by decide) rfl) rfl rfl ?_
  obtain ⟨x16_3, hc, h⟩ := h
  refine Ls rfl rfl (X_ld rfl Tryd.underlying39 rfl rfl hc ?_)
  refine Lp (V_move rfl rfl) rfl rfl ?_
  refine Ls rfl rfl (X_lkp rfl rfl rfl (awp_mono _ h ?_))
  rintro v σ ⟨x18_4, rfl, h⟩
  refine Lp (V_asg rfl rfl) rfl rfl ?_
  refine Lnil ?_
  refine thenN ?_
  refine AW.seq ?_
  refine AW.seq ?_
  refine AW.reg ?_
  refine Lp (V_move rfl rfl) rfl rfl ?_
  refine Lp (V_eqP rfl Tryd.underlying33 rfl rfl) rfl rfl ?_
  refine Lnil ?_
  refine thenN ?_
  refine AW.iff rfl isNone_iff h (fun h => ?_) (fun h => ?_)
  · refine AW.seq ?_
    refine AW.reg ?_
    refine Lp (V_asg rfl rfl) rfl rfl ?_
    refine Lp (V_asg rfl rfl) rfl rfl ?_
    refine Lnil ?_
    refine thenN ?_
    refine AW.ret ?_
    refine thenR ?_
    exact bR2 Tryd.results19 rfl rfl ⟨_, _, rfl, h⟩
  refine AW.skip ?_
  refine thenN ?_
  refine AW.seq ?_
  refine AW.reg ?_
  refine Lp (V_move rfl rfl) rfl rfl ?_
  refine Lp (V_asg rfl rfl) rfl rfl ?_
  refine Lp (V_asg rfl rfl) rfl rfl ?_
  refine Lnil ?_
  refine thenN ?_
  refine AW.ret ?_
  exact bR2 Tryd.results19 rfl rfl ⟨_, _, rfl, h⟩

end Go.Proofs.YthfpmipeejjogaaDoor.G

/- The tree in memory: the map of nodes, as a list of paths and nodes; look-ups, changes of a node, new nodes, nodes that go. -/
namespace Go.Proofs.YthfpmipeejjogaaDoor.Zt
open Go Go.Proofs.YthfpmipeejjogaaDoor.SL Go.Proofs.YthfpmipeejjogaaDoor.G Go.Proofs.YthfpmipeejjogaaDoor.Pa
set_option linter.unusedSimpArgs false
set_option linter.unusedVariables false
variable {B : World} {ro σ σ' : AH} {tag tag' : Nat → Nat}

structure Nd where
  ver : Int
  ctr : Int
  own : Int
  kids : Int
  data : Str
abbrev St := List (Str × Nd)
abbrev vI (x : Int) : Value := .int .i64 x
abbrev vU (c : UInt8) : Value := .int .u8 c.toNat
abbrev ptr (b : Nat) : Value := .pointer (some ⟨b, 0, none⟩)
def NodeAt (tag : Nat → Nat) (σ : AH) (r b : Nat) (n : Nd) : Prop :=
  ∃ s : Sl, Row tag σ (r + 64 * (b + 2)) 38 ⟨some ⟨b, 0, none⟩, 5, 5⟩ [vI n.ver, vI n.ctr, vI n.own, vI n.kids, Sl.v s] ∧ Row tag σ 6 5 s (n.data.map vU)
def kv : St → List Nat → KV
  | (p, _) :: st, b :: bs => (p, ptr b) :: kv st bs
  | _, _ => []
structure TreeAt (tag : Nat → Nat) (σ : AH) (r T M : Nat) (bs : List Nat) (st : St) : Prop where
  keys : (st.map (·.1)).Nodup
  len : bs.length = st.length
  nd : bs.Nodup
  cell : Row tag σ r 41 ⟨some ⟨T, 0, none⟩, 1, 1⟩ [.map (some M)]
  map : MapIs tag σ (r + 64) M (kv st bs)
  nodes : ∀ (i b : Nat) (p : Str × Nd), bs[i]? = some b → st[i]? = some p → NodeAt tag σ r b p.2
def TreeIs (tag : Nat → Nat) (σ : AH) (r T : Nat) (st : St) : Prop := ∃ M bs, TreeAt tag σ r T M bs st

theorem NodeAt.keep {R : List Nat} {r b : Nat} {n : Nd} (h : NodeAt tag σ r b n) (k : Step R ro tag σ tag' σ') (h1 : r + 64 * (b + 2) ∉ R) (h2 : 6 ∉ R) : NodeAt tag' σ' r b n := by
  obtain ⟨s, a, c⟩ := h
  exact ⟨s, a.keep k h1, c.keep k h2⟩
theorem TreeAt.keep {R : List Nat} {r T M : Nat} {bs : List Nat} {st : St} (h : TreeAt tag σ r T M bs st) (k : Step R ro tag σ tag' σ') (hR : ∀ x ∈ R, x % 64 ≠ r % 64 ∧ x ≠ 6) : TreeAt tag' σ' r T M bs st :=
  ⟨h.keys, h.len, h.nd, h.cell.keep k fun m => (hR _ m).1 rfl, h.map.keep k fun m => (hR _ m).1 (by omega), fun i b p hb hp => (h.nodes i b p hb hp).keep k (fun m => (hR _ m).1 (by omega)) fun m => (hR _ m).2 rfl⟩
theorem TreeIs.keep {R : List Nat} {r T : Nat} {st : St} (h : TreeIs tag σ r T st) (k : Step R ro tag σ tag' σ') (hR : ∀ x ∈ R, x % 64 ≠ r % 64 ∧ x ≠ 6) : TreeIs tag' σ' r T st := by
  obtain ⟨M, bs, h⟩ := h
  exact ⟨M, bs, h.keep k hR⟩

theorem kv_lookup : ∀ (st : St) (bs : List Nat) (u : Str), bs.length = st.length →
    (st.lookup u = none ∧ (kv st bs).lookup u = none) ∨ ∃ (i b : Nat) (n : Nd), bs[i]? = some b ∧ st[i]? = some (u, n) ∧ st.lookup u = some n ∧ (kv st bs).lookup u = some (ptr b) := by
  intro st
  induction st with
  | nil => intro bs u h; exact .inl ⟨rfl, by cases bs <;> rfl⟩
  | cons p st ih =>
    intro bs u h
    cases bs with
    | nil => simp at h
    | cons b bs =>
      obtain ⟨p, n⟩ := p
      simp only [List.length_cons, Nat.add_right_cancel_iff] at h
      unfold kv
      rw [List.lookup_cons, List.lookup_cons]
      by_cases c : u = p
      · subst c
        rw [show (u == u) = true by simp]
        exact .inr ⟨0, b, n, rfl, rfl, rfl, rfl⟩
      · rw [show (u == p) = false by simpa using c]
        rcases ih bs u h with h' | ⟨i, b', n', h1, h2, h3, h4⟩
        · exact .inl h'
        · exact .inr ⟨i + 1, b', n', by simpa using h1, by simpa using h2, h3, h4⟩
def modN (st : St) (u : Str) (f : Nd → Nd) : St := st.map fun p => if p.1 = u then (p.1, f p.2) else p
theorem modN_set {st : St} (hk : (st.map (·.1)).Nodup) {i : Nat} {u : Str} {n : Nd} (h : st[i]? = some (u, n)) (f : Nd → Nd) : modN st u f = st.set i (u, f n) := by
  unfold modN
  apply List.ext_getElem?
  intro j
  rw [List.getElem?_map, List.getElem?_set]
  have hil : i < st.length := by
    rcases Nat.lt_or_ge i st.length with h' | h'
    · exact h'
    · rw [List.getElem?_eq_none h'] at h; cases h
  by_cases c : i = j
  · subst c; rw [if_pos rfl, if_pos hil, h]; simp
  · rw [if_neg c]
    cases e : st[j]? with
    | none => rfl
    | some p =>
      have hne : p.1 ≠ u := by
        intro hp
        apply c
        have hjl : j < st.length := by
          rcases Nat.lt_or_ge j st.length with h' | h'
          · exact h'
          · rw [List.getElem?_eq_none h'] at e; cases e
        refine (List.getElem_inj (h₀ := by simpa using hil) (h₁ := by simpa using hjl) hk).1 ?_
        rw [List.getElem?_eq_getElem hil] at h
        rw [List.getElem?_eq_getElem hjl] at e
        simp only [List.getElem_map]
        rw [Option.some.inj h, Option.some.inj e, hp]
      simp [hne]
theorem kv_set : ∀ (st : St) (bs : List Nat) (i : Nat) (u : Str) (n n' : Nd), st[i]? = some (u, n) → kv (st.set i (u, n')) bs = kv st bs := by
  intro st
  induction st with
  | nil => intro bs i u n n' h; cases h
  | cons p st ih =>
    intro bs i u n n' h
    cases bs with
    | nil => cases i <;> simp [kv]
    | cons b bs =>
      cases i with
      | zero => cases h; rfl
      | succ i => simp only [List.set_cons_succ]; unfold kv; rw [ih bs i u n n' (by simpa using h)]
theorem keys_set {st : St} {i : Nat} {u : Str} {n n' : Nd} (h : st[i]? = some (u, n)) : (st.set i (u, n')).map (·.1) = st.map (·.1) := by
  rw [List.map_set]
  apply List.ext_getElem?
  intro j
  rw [List.getElem?_set, List.getElem?_map]
  by_cases c : i = j
  · subst c; rw [h]; simp
    rcases Nat.lt_or_ge i st.length with h' | h'
    · exact h'
    · rw [List.getElem?_eq_none h'] at h; cases h
  · rw [if_neg c]
theorem idx_inj {α : Type} {l : List α} (hn : l.Nodup) {i j : Nat} {x : α} (hi : l[i]? = some x) (hj : l[j]? = some x) : i = j := by
  have hil : i < l.length := by
    rcases Nat.lt_or_ge i l.length with h' | h'
    · exact h'
    · rw [List.getElem?_eq_none h'] at hi; cases hi
  have hjl : j < l.length := by
    rcases Nat.lt_or_ge j l.length with h' | h'
    · exact h'
    · rw [List.getElem?_eq_none h'] at hj; cases hj
  rw [List.getElem?_eq_getElem hil] at hi
  rw [List.getElem?_eq_getElem hjl] at hj
  exact (List.getElem_inj hn).1 (by rw [Option.some.inj hi, Option.some.inj hj])
/-- a node is another one now -/
theorem TreeAt.write {r T i b M : Nat} {st : St} {bs : List Nat} {u : Str} {n n' : Nd} (h : TreeAt tag σ r T M bs st) (hr : r < 64) (hr6 : r ≠ 6) (hb : bs[i]? = some b) (hp : st[i]? = some (u, n)) (k : Step [r + 64 * (b + 2)] ro tag σ tag' σ') (hnew : NodeAt tag' σ' r b n') : TreeAt tag' σ' r T M bs (st.set i (u, n')) := by
  refine ⟨by rw [keys_set hp]; exact h.keys, by simpa using h.len, h.nd, h.cell.keep k (by simp), ?_, fun j c p hc hp' => ?_⟩
  · rw [kv_set _ _ _ _ _ _ hp]; exact h.map.keep k (by simp; omega)
  · rw [List.getElem?_set] at hp'
    by_cases e : i = j
    · subst e
      rw [hb] at hc; cases hc
      rw [if_pos rfl] at hp'
      split at hp'
      · cases hp'; exact hnew
      · cases hp'
    · rw [if_neg e] at hp'
      refine (h.nodes j c p hc hp').keep k ?_ ?_
      · simp
        intro h'
        have : b = c := by omega
        subst this
        exact e (idx_inj h.nd hb hc)
      · simp; omega
end Go.Proofs.YthfpmipeejjogaaDoor.Zt

/- The tree, the walk: New, find, check, Create. -/
namespace Go.Proofs.YthfpmipeejjogaaDoor.Zt
open Go Go.Proofs.YthfpmipeejjogaaDoor.SL Go.Proofs.YthfpmipeejjogaaDoor.G Go.Proofs.YthfpmipeejjogaaDoor.Pa
set_option linter.unusedSimpArgs false
set_option linter.unusedVariables false
variable {B : World} {ro σ σ' : AH} {tag tag' : Nat → Nat}

theorem u126 : Tryd.prog.underlying 39 = some (.map 9 33) := by kernel_rfl
theorem u9 : Tryd.prog.underlying 9 = some .string := by kernel_rfl
theorem u30 : Tryd.prog.underlying 36 = some (.slice 5) := by kernel_rfl
theorem ty129 : TyIs Tryd.prog 33 (.pointer none) 1 8 := TyIs.of (by kernel_rfl)

set_option maxRecDepth 100000 in
theorem clone_ok {s : Sl} {l : List Value} {Q : Sl → AH → Prop} (h : SL.Read ro σ s l) (hs : SL.Sep ro σ) (hl : l.length ≤ 140737488355328) (hv : ∀ v ∈ l, storable v = true) (hQ : ∀ s' tag' σ', (∀ R, Step R ro tag σ tag' σ') → Row tag' σ' 6 5 s' l → Q s' σ') : c_bytes_Clone B ro s σ Q := by
  refine bytes_Clone_ok fun _ => ?_
  unfold f_bytes_Clone
  by_cases h0 : s.a = none
  · rw [if_pos h0]
    rw [h.2.1 h0] at hQ
    exact hQ _ tag σ (fun _ => Step.refl hs) (Row.nil 6 5)
  · rw [if_neg h0]
    refine nw_cells (tag := tag) 6 hs fun b tag1 σ1 st1 r1 => ?_
    have h' : SL.Read ro σ1 s l := h.step (st1 [])
    refine awp_appendN r1 (st1 []).sep h' u30 ty5 rfl hv (by simp; omega) (by decide) fun s' tag2 σ2 st2 r2 => ?_
    exact ⟨s', rfl, hQ s' tag2 σ2 (fun R => (st1 R).trans (st2 R (.inl rfl))) r2⟩

def St.new : St := [([47], ⟨0, 0, 0, 0, []⟩)]
set_option maxRecDepth 100000 in
theorem new_ok {Q : Option Addr → AH → Prop} (r : Nat) (hr : r < 64) (hr6 : r ≠ 6) (hQ : ∀ T tag' σ', StepC r ro tag σ tag' σ' → TreeIs tag' σ' r T St.new → Q (some ⟨T, 0, none⟩) σ') : c_ztree_New B ro σ Q := by
  refine ztree_New_ok fun hs => ?_
  unfold f_ztree_New
  refine nw_map (tag := tag) (r + 64) hs fun M tag1 σ1 st1 m1 => ?_
  refine nw_cellsF (tag := tag1) (fun b => r + 64 * (b + 2)) (st1 []).sep fun b tag2 σ2 _ _ st2 r2 => ?_
  have m2 := m1.keep (st2 []) (by simp)
  refine awp_update_str (k := [47]) m2 (st2 []).sep u126 u9 fun σ3 st3 m3 => ?_
  have r3 := r2.keep st3 (by simp; omega)
  refine nw_cells (tag := tag2) r st3.sep fun T tag4 σ4 st4 r4 => ?_
  have st : StepC r ro tag σ tag4 σ4 := ((st1 []).c (by simp)).trans (((st2 []).c (by simp)).trans ((st3.c (by simp; omega)).trans ((st4 []).c (by simp))))
  refine hQ T tag4 σ4 st ⟨M, [b], by simp [St.new], rfl, by simp, r4, m3.keep (st4 []) (by simp), fun i c p hc hp => ?_⟩
  rcases i with _ | i
  · cases hc; cases hp
    exact ⟨⟨none, 0, 0⟩, r3.keep (st4 []) (by simp), Row.nil 6 5⟩
  · cases hc

set_option maxRecDepth 100000 in
/-- where a path stands -/
theorem find_ok {r T M : Nat} {bs : List Nat} {st : St} {p : ByteArray} {Q : Option Addr → Int → AH → Prop} (g : Glob ro) (h : TreeAt tag σ r T M bs st) (hs : SL.Sep ro σ) (hbad : parts (L p) = none → Q none 20 σ)
    (hmiss : ∀ ps, parts (L p) = some ps → st.lookup (L p) = none → Q none 70 σ) (hhit : ∀ (ps : List Str) (i b : Nat) (n : Nd), parts (L p) = some ps → bs[i]? = some b → st[i]? = some (L p, n) → st.lookup (L p) = some n → Q (some ⟨b, 0, none⟩) 0 σ) :
    c_ztree_Tree_find B ro (some ⟨T, 0, none⟩) p σ Q := by
  refine ztree_Tree_find_ok fun _ => ?_
  unfold f_ztree_Tree_find
  refine check_ok g ?_
  by_cases h1 : Pa.chk (L p) = 0
  · rw [if_neg (by simpa using h1)]
    obtain ⟨ps, hps⟩ := chk_zero.1 h1
    refine ⟨_, rfl, _, Row.cell1 h.cell hs, ?_⟩
    rw [← S_L p]
    refine awp_lookup_str h.map hs u126 u9 ty129 ?_
    rcases kv_lookup st bs (L p) h.len with ⟨a, e⟩ | ⟨i, b, n, a1, a2, a3, e⟩
    · rw [e]
      exact ⟨none, rfl, by rw [if_pos rfl]; exact hmiss ps hps a⟩
    · rw [e]
      exact ⟨some ⟨b, 0, none⟩, rfl, by rw [if_neg (by simp)]; exact hhit ps i b n hps a1 a2 a3⟩
  · rw [if_pos (by simpa using h1)]
    have e : parts (L p) = none := by
      cases h : parts (L p) with
      | none => rfl
      | some ps => exact absurd (chk_zero.2 ⟨ps, h⟩) h1
    have : Pa.chk (L p) = 20 := by unfold Pa.chk; rw [e]; rfl
    rw [this]; exact hbad e

set_option maxRecDepth 100000 in
theorem zcheck_ok {r T M : Nat} {bs : List Nat} {st : St} {p : ByteArray} {v : Int} {Q : Option Addr → Int → AH → Prop} (g : Glob ro) (h : TreeAt tag σ r T M bs st) (hs : SL.Sep ro σ) (hbad : (L p = [47] ∨ parts (L p) = none) → Q none 20 σ)
    (hmiss : L p ≠ [47] → ∀ ps, parts (L p) = some ps → st.lookup (L p) = none → Q none 70 σ)
    (hver : L p ≠ [47] → ∀ (ps : List Str) (n : Nd), parts (L p) = some ps → st.lookup (L p) = some n → v ≠ -1 → v ≠ n.ver → Q none 72 σ)
    (hhit : L p ≠ [47] → ∀ (ps : List Str) (i b : Nat) (n : Nd), parts (L p) = some ps → bs[i]? = some b → st[i]? = some (L p, n) → st.lookup (L p) = some n → (v = -1 ∨ v = n.ver) → Q (some ⟨b, 0, none⟩) 0 σ) :
    c_ztree_Tree_check B ro (some ⟨T, 0, none⟩) p v σ Q := by
  refine ztree_Tree_check_ok fun _ => ?_
  unfold f_ztree_Tree_check
  by_cases h1 : p = ⟨#[47]⟩
  · rw [if_pos h1]
    exact hbad (.inl (by rw [h1]; rfl))
  · rw [if_neg h1]
    have hne : L p ≠ [47] := fun h => h1 (L_inj h)
    refine find_ok g h hs (fun hb => ?_) (fun ps hps hl => ?_) (fun ps i b n hps hb hp hl => ?_)
    · rw [if_neg (by simp)]
      unfold j3_ztree_Tree_check
      rw [if_neg (by simp)]
      exact hbad (.inr hb)
    · rw [if_neg (by simp)]
      unfold j3_ztree_Tree_check
      rw [if_neg (by simp)]
      exact hmiss hne ps hps hl
    · by_cases h2 : v = -1
      · rw [if_neg (by simp [h2])]
        unfold j3_ztree_Tree_check
        rw [if_neg (by simp)]
        exact hhit hne ps i b n hps hb hp hl (.inl h2)
      · rw [if_pos ⟨rfl, h2⟩]
        obtain ⟨s, hn, _⟩ := h.nodes i b _ hb hp
        obtain ⟨q, hq, hg⟩ := hn.ptr hs (by simp)
        cases hq
        refine ⟨_, rfl, n.ver, hg 0 _ rfl, ?_⟩
        unfold j3_ztree_Tree_check
        by_cases h3 : v = n.ver
        · rw [if_neg (by simp [h3])]
          exact hhit hne ps i b n hps hb hp hl (.inr h3)
        · rw [if_pos (by simp [h3])]
          exact hver hne ps n hps hl h2 h3

/-! what the calls do -/
def bump (n : Nd) : Nd := { n with ctr := IntKind.i64.wrap (n.ctr + 1), kids := IntKind.i64.wrap (n.kids + 1) }
def create (st : St) (p : Str) (data : Str) (o : Int) (seq : Bool) : St × Str × Int :=
  match parent p with
  | none => (st, [], 20)
  | some u =>
    if 256 < data.length then (st, [], 75)
    else if o < 0 ∨ 4611686018427387903 < o then (st, [], 10)
    else match st.lookup u with
      | none => (st, [], 70)
      | some n =>
        if n.own ≠ 0 then (st, [], 74)
        else if 9999999999 < n.ctr then (st, [], 76)
        else match (if seq then suffix p n.ctr else some p) with
          | none => (st, [], 20)
          | some q => if (st.lookup q).isSome then (st, [], 71) else (modN (st ++ [(q, ⟨0, 0, o, 0, data⟩)]) u bump, q, 0)

theorem kv_app : ∀ (st : St) (bs : List Nat) (q : Str) (n : Nd) (b : Nat), bs.length = st.length → kv (st ++ [(q, n)]) (bs ++ [b]) = kv st bs ++ [(q, ptr b)] := by
  intro st
  induction st with
  | nil => intro bs q n b h; have : bs = [] := List.eq_nil_of_length_eq_zero h; subst this; rfl
  | cons p st ih =>
    intro bs q n b h
    cases bs with
    | nil => simp at h
    | cons c bs =>
      obtain ⟨p, m⟩ := p
      simp only [List.cons_append]
      unfold kv
      rw [ih bs q n b (by simpa using h)]; rfl
theorem kv_mput : ∀ (st : St) (bs : List Nat) (q : Str) (b : Nat), bs.length = st.length → st.lookup q = none → mput (kv st bs) q (ptr b) = kv st bs ++ [(q, ptr b)] := by
  intro st
  induction st with
  | nil => intro bs q b h _; cases bs <;> rfl
  | cons p st ih =>
    intro bs q b h hl
    cases bs with
    | nil => simp at h
    | cons c bs =>
      obtain ⟨p, m⟩ := p
      rw [List.lookup_cons] at hl
      by_cases e : q = p
      · subst e; simp at hl
      · rw [show (q == p) = false by simpa using e] at hl
        unfold kv mput
        rw [if_neg e, ih bs q b (by simpa using h) hl]; rfl
theorem lookup_none {st : St} {q : Str} (h : st.lookup q = none) : q ∉ st.map (·.1) := by
  intro hm
  obtain ⟨p, hp, e⟩ := List.mem_map.1 hm
  rw [List.lookup_eq_none_iff] at h
  have := h p hp
  simp at this
  exact this e.symm
/-- a new node -/
theorem TreeAt.add {r T M b : Nat} {bs : List Nat} {st : St} {q : Str} {n : Nd} {tag2 : Nat → Nat} {σ2 : AH} (h : TreeAt tag σ r T M bs st) (hr : r < 64) (hr6 : r ≠ 6) (hq : st.lookup q = none) (hb : σ b = none) (k : Step [r + 64] ro tag σ tag2 σ2) (hnew : NodeAt tag2 σ2 r b n) (hm : MapIs tag2 σ2 (r + 64) M (mput (kv st bs) q (ptr b))) : TreeAt tag2 σ2 r T M (bs ++ [b]) (st ++ [(q, n)]) := by
  have hnb : b ∉ bs := fun hm' => by
    obtain ⟨i, hi, e⟩ := List.getElem_of_mem hm'
    have hb' : bs[i]? = some b := by rw [List.getElem?_eq_getElem hi, e]
    have hil : i < st.length := by rw [← h.len]; exact hi
    obtain ⟨s, hn, _⟩ := h.nodes i b _ hb' (List.getElem?_eq_getElem hil)
    obtain ⟨_, o, ho⟩ := hn.tagOf
    rw [hb] at ho; cases ho
  refine ⟨?_, by simp [h.len], ?_, h.cell.keep k (by simp), ?_, fun i c p hc hp => ?_⟩
  · rw [List.map_append, List.nodup_append]
    refine ⟨h.keys, by simp, ?_⟩
    intro x hx y hy
    simp at hy
    intro e
    exact lookup_none hq (by rw [← hy, ← e]; exact hx)
  · rw [List.nodup_append]
    refine ⟨h.nd, by simp, ?_⟩
    intro x hx y hy
    simp at hy
    intro e
    exact hnb (by rw [← hy, ← e]; exact hx)
  · rw [kv_app _ _ _ _ _ h.len, ← kv_mput _ _ _ _ h.len hq]; exact hm
  · rcases Nat.lt_or_ge i bs.length with hi | hi
    · rw [List.getElem?_append_left hi] at hc
      rw [List.getElem?_append_left (by rw [← h.len]; exact hi)] at hp
      exact (h.nodes i c p hc hp).keep k (by simp; omega) (by simp)
    · rw [List.getElem?_append_right hi] at hc
      rw [List.getElem?_append_right (by rw [← h.len]; exact hi), ← h.len] at hp
      cases hd : i - bs.length with
      | zero =>
        rw [hd] at hc hp
        cases hc; cases hp
        exact hnew
      | succ j => rw [hd] at hc; cases hc
end Go.Proofs.YthfpmipeejjogaaDoor.Zt

/- The tree, the walk: Create. -/
namespace Go.Proofs.YthfpmipeejjogaaDoor.Zt
open Go Go.Proofs.YthfpmipeejjogaaDoor.SL Go.Proofs.YthfpmipeejjogaaDoor.G Go.Proofs.YthfpmipeejjogaaDoor.Pa
set_option linter.unusedSimpArgs false
set_option linter.unusedVariables false
variable {B : World} {ro σ σ' : AH} {tag tag' : Nat → Nat}

theorem st_last {q : Str} {n : Nd} (st : St) {i : Nat} {u : Str} {m : Nd} (h : st[i]? = some (u, m)) : (st ++ [(q, n)])[i]? = some (u, m) := by
  have hil : i < st.length := by
    rcases Nat.lt_or_ge i st.length with h' | h'
    · exact h'
    · rw [List.getElem?_eq_none h'] at h; cases h
  rw [List.getElem?_append_left hil]; exact h
theorem app_idx {bs : List Nat} {c i b : Nat} (h : bs[i]? = some b) : (bs ++ [c])[i]? = some b := by
  have hil : i < bs.length := by
    rcases Nat.lt_or_ge i bs.length with h' | h'
    · exact h'
    · rw [List.getElem?_eq_none h'] at h; cases h
  rw [List.getElem?_append_left hil]; exact h

set_option maxRecDepth 100000 in
theorem create_ok {r T : Nat} {st : St} {p : ByteArray} {s : Sl} {d : Str} {o : Int} {seq : Bool} {Q : ByteArray → Int → AH → Prop} (g : Glob ro) (hr : r < 64) (hr6 : r ≠ 6) (hr0 : r ≠ 0) (h : TreeIs tag σ r T st) (hd : SL.Read ro σ s (d.map vU)) (hdl : d.length < 4611686018427387904)
    (hQ : ∀ tag' σ', StepC r ro tag σ tag' σ' → TreeIs tag' σ' r T (create st (L p) d o seq).1 → Q (S (create st (L p) d o seq).2.1) (create st (L p) d o seq).2.2 σ') : c_ztree_Tree_Create B ro (some ⟨T, 0, none⟩) p s o seq σ Q := by
  refine ztree_Tree_Create_ok fun hs => ?_
  unfold f_ztree_Tree_Create
  have hsl : s.len = d.length := by rw [hd.1, List.length_map]
  have same : ∀ e : Int, create st (L p) d o seq = (st, [], e) → Q (⟨#[]⟩ : ByteArray) e σ := fun e he => by
    have := hQ tag σ (StepC.refl hs) (by rw [he]; exact h)
    rw [he] at this; exact this
  refine parent_ok g (fun hp => ?_) (fun u hu => ?_)
  · rw [if_pos (by decide)]
    exact same 20 (by unfold create; rw [hp])
  · rw [if_neg (by decide)]
    by_cases h1 : 256 < (s.len : Int)
    · rw [if_pos h1]
      exact same 75 (by unfold create; rw [hu]; simp only; rw [if_pos (by omega)])
    · rw [if_neg h1]
      have h1' : ¬ 256 < d.length := by omega
      by_cases h2 : o < 0 ∨ 4611686018427387903 < o
      · rw [if_pos h2]
        exact same 10 (by unfold create; rw [hu]; simp only; rw [if_neg h1', if_pos h2])
      · rw [if_neg h2]
        obtain ⟨M, bs, hA⟩ := h
        refine ⟨_, rfl, _, Row.cell1 hA.cell hs, ?_⟩
        refine awp_lookup_str hA.map hs u126 u9 ty129 ?_
        rcases kv_lookup st bs u hA.len with ⟨a, e⟩ | ⟨i, b, n, a1, a2, a3, e⟩
        · rw [e]
          refine ⟨none, rfl, ?_⟩
          rw [if_pos rfl]
          exact same 70 (by unfold create; rw [hu]; simp only; rw [if_neg h1', if_neg h2, a])
        · rw [e]
          refine ⟨some ⟨b, 0, none⟩, rfl, ?_⟩
          rw [if_neg (by simp)]
          obtain ⟨ds, hn, hdat⟩ := hA.nodes i b _ a1 a2
          obtain ⟨q, hq, hg⟩ := hn.ptr hs (by simp)
          cases hq
          refine ⟨_, rfl, n.own, hg 2 _ rfl, ?_⟩
          by_cases h3 : n.own = 0
          · rw [if_neg (by simp [h3])]
            refine ⟨_, rfl, n.ctr, hg 1 _ rfl, ?_⟩
            by_cases h4 : 9999999999 < n.ctr
            · rw [if_pos h4]
              exact same 76 (by unfold create; rw [hu]; simp only; rw [if_neg h1', if_neg h2, a3]; simp only; rw [if_neg (by simp [h3]), if_pos h4])
            · rw [if_neg h4]
              have hcr : create st (L p) d o seq = match (if seq then suffix (L p) n.ctr else some (L p)) with
                  | none => (st, [], 20)
                  | some q => if (st.lookup q).isSome then (st, [], 71) else (modN (st ++ [(q, ⟨0, 0, o, 0, d⟩)]) u bump, q, 0) := by
                unfold create; rw [hu]; simp only; rw [if_neg h1', if_neg h2, a3]; simp only; rw [if_neg (by simp [h3]), if_neg h4]; try rfl
              have main : ∀ q : Str, (if seq then suffix (L p) n.ctr else some (L p)) = some q → j10_ztree_Tree_Create B ro (some ⟨T, 0, none⟩) s o (some ⟨b, 0, none⟩) Q (S q) σ := by
                intro q hq
                rw [hq] at hcr
                simp only at hcr
                unfold j10_ztree_Tree_Create
                refine ⟨_, rfl, _, Row.cell1 hA.cell hs, ?_⟩
                refine awp_lookup_str hA.map hs u126 u9 ty129 ?_
                rcases kv_lookup st bs q hA.len with ⟨c, e2⟩ | ⟨i2, b2, n2, c1, c2, c3, e2⟩
                · rw [e2]
                  refine ⟨none, rfl, ?_⟩
                  rw [if_neg (by simp)]
                  rw [c] at hcr
                  simp only [Option.isSome_none, Bool.false_eq_true, if_false] at hcr
                  refine lent_block T ?_
                  obtain ⟨hT0, hTo⟩ := hA.cell.tagOf
                  have hs1 : SL.Sep (join ro (SL.one σ T)) (SL.del σ T) := hs.lent
                  refine ⟨_, rfl, some M, hA.cell.lend hs (i := 0) rfl, ?_⟩
                  refine clone_ok (tag := tag) (hd.lent T) hs1 (by simp; omega) (by simp [storable]) fun s' tag1 σ1 st1 r1 => ?_
                  refine nw_cellsF (tag := tag1) (fun b => r + 64 * (b + 2)) (st1 []).sep fun c' tag2 σ2 hro2 hc2 st2 r2 => ?_
                  have hM1 := ((hA.map.del (by rw [hT0]; omega)).keep (st1 []) (by simp)).keep (st2 []) (by simp)
                  refine awp_update_str hM1 (st2 []).sep u126 u9 fun σ3 st3 m3 => ?_
                  intro hdj
                  have stA : Step [r + 64] (join ro (SL.one σ T)) tag (SL.del σ T) tag2 σ3 := (st1 _).trans ((st2 _).trans st3)
                  have stB := stA.back hs hdj hTo
                  have m4 := m3.back (r' := tag T) hdj hTo
                  have hnode : NodeAt (setTag tag2 T (tag T)) (join (SL.one σ T) σ3) r c' ⟨0, 0, o, 0, d⟩ :=
                    ⟨s', (r2.keep st3 (by simp; omega)).back hdj hTo, ((r1.keep (st2 []) (by simp)).keep st3 (by simp)).back hdj hTo⟩
                  have hfree : σ c' = none := by
                    cases hcc : σ c' with
                    | none => rfl
                    | some x =>
                      have hne : c' ≠ T := fun e => by
                        have := (join_none hro2).2
                        unfold SL.one at this
                        rw [if_pos e, hcc] at this; cases this
                      obtain ⟨_, x', hx'⟩ := (st1 []).old c' x (by unfold SL.del; rw [if_neg hne]; exact hcc)
                      rw [hc2] at hx'; cases hx'
                  have hA2 := hA.add (n := ⟨0, 0, o, 0, d⟩) hr hr6 c hfree stB hnode m4
                  have b1 := app_idx (c := c') a1
                  have b2 := st_last (q := q) (n := ⟨0, 0, o, 0, d⟩) st a2
                  generalize setTag tag2 T (tag T) = tagx at *
                  generalize join (SL.one σ T) σ3 = σx at *
                  have hsx := stB.sep
                  obtain ⟨d1, hn1, hd1⟩ := hA2.nodes i b _ b1 b2
                  obtain ⟨q1, hq1, hg1⟩ := hn1.ptr hsx (by simp)
                  cases hq1
                  refine ⟨_, rfl, n.ctr, hg1 1 _ rfl, _, rfl, ?_⟩
                  refine hn1.st (i := 1) hsx rfl (by simp) rfl fun σ4 st4 r4 => ?_
                  have hA3 := hA2.write (n' := { n with ctr := IntKind.i64.wrap (n.ctr + 1) }) hr hr6 b1 b2 st4 ⟨d1, r4, hd1.keep st4 (by simp; omega)⟩
                  have b3 : ((st ++ [(q, (⟨0, 0, o, 0, d⟩ : Nd))]).set i (u, { n with ctr := IntKind.i64.wrap (n.ctr + 1) }))[i]? = some (u, { n with ctr := IntKind.i64.wrap (n.ctr + 1) }) := by
                    rw [List.getElem?_set, if_pos rfl, if_pos]
                    rcases Nat.lt_or_ge i (st ++ [(q, (⟨0, 0, o, 0, d⟩ : Nd))]).length with h' | h'
                    · exact h'
                    · rw [List.getElem?_eq_none h'] at b2; cases b2
                  obtain ⟨q2, hq2, hg2⟩ := r4.ptr st4.sep (by simp)
                  cases hq2
                  refine ⟨_, rfl, n.kids, hg2 3 _ rfl, _, rfl, ?_⟩
                  refine r4.st (i := 3) st4.sep rfl (by simp) rfl fun σ5 st5 r5 => ?_
                  have hA4 := hA3.write (n' := bump n) hr hr6 b1 b3 st5 ⟨d1, r5, (hd1.keep st4 (by simp; omega)).keep st5 (by simp; omega)⟩
                  rw [List.set_set] at hA4
                  rw [← modN_set hA2.keys b2 bump] at hA4
                  have hres := hQ tagx σ5 ((stB.c (by simp; omega)).trans ((st4.c (by simp; omega)).trans (st5.c (by simp; omega)))) (by rw [hcr]; exact ⟨M, _, hA4⟩)
                  rw [hcr] at hres
                  exact hres
                · rw [e2]
                  refine ⟨some ⟨b2, 0, none⟩, rfl, ?_⟩
                  rw [if_pos (by simp)]
                  refine same 71 ?_
                  rw [hcr, c3]; rfl
              by_cases h5 : seq = true
              · rw [if_pos h5]
                refine ⟨_, rfl, n.ctr, hg 1 _ rfl, ?_⟩
                refine suffix_ok g (fun hnone => ?_) (fun q hq => ?_)
                · rw [if_pos (by decide)]
                  refine same 20 ?_
                  rw [hcr, if_pos h5, hnone]
                · rw [if_neg (by decide)]
                  exact main q (by rw [if_pos h5]; exact hq)
              · rw [if_neg h5]
                have := main (L p) (by rw [if_neg h5])
                rw [S_L] at this; exact this
          · rw [if_pos (by simp [h3])]
            exact same 74 (by unfold create; rw [hu]; simp only; rw [if_neg h1', if_neg h2, a3]; simp only; rw [if_pos (by simp [h3])])
end Go.Proofs.YthfpmipeejjogaaDoor.Zt

/- The tree, the walk: Delete, Set. -/
namespace Go.Proofs.YthfpmipeejjogaaDoor.Zt
open Go Go.Proofs.YthfpmipeejjogaaDoor.SL Go.Proofs.YthfpmipeejjogaaDoor.G Go.Proofs.YthfpmipeejjogaaDoor.Pa
set_option linter.unusedSimpArgs false
set_option linter.unusedVariables false
variable {B : World} {ro σ σ' : AH} {tag tag' : Nat → Nat}

def delK : St → Str → St
  | [], _ => []
  | (k', n) :: r, k => if k = k' then r else (k', n) :: delK r k
def less (n : Nd) : Nd := { n with kids := IntKind.i64.wrap (n.kids - 1) }
/-- Delete: the tree behind it, and the error -/
def remove (st : St) (p : Str) (v : Int) : St × Int :=
  if p = [47] ∨ parts p = none then (st, 20)
  else match st.lookup p with
    | none => (st, 70)
    | some n => if v ≠ -1 ∧ v ≠ n.ver then (st, 72) else if 0 < n.kids then (st, 73)
      else match parent p with
        | none => (st, 20)
        | some u => (delK (modN st u less) p, 0)
theorem delK_idx : ∀ (st : St) (bs : List Nat) (i b : Nat) (q : Str) (n : Nd), bs.length = st.length → (st.map (·.1)).Nodup → bs[i]? = some b → st[i]? = some (q, n) →
    delK st q = st.eraseIdx i ∧ mdel (kv st bs) q = kv (st.eraseIdx i) (bs.eraseIdx i) := by
  intro st
  induction st with
  | nil => intro bs i b q n _ _ _ h; cases h
  | cons p st ih =>
    intro bs i b q n hl hk hb hp
    cases bs with
    | nil => simp at hl
    | cons c bs =>
      obtain ⟨p, m⟩ := p
      rw [List.map_cons, List.nodup_cons] at hk
      cases i with
      | zero =>
        cases hp
        exact ⟨by simp [delK], by simp [kv, mdel]⟩
      | succ i =>
        simp only [List.getElem?_cons_succ] at hb hp
        have hne : q ≠ p := fun e => hk.1 (by rw [← e]; exact List.mem_map.2 ⟨_, List.mem_of_getElem? hp, rfl⟩)
        obtain ⟨h1, h2⟩ := ih bs i b q n (by simpa using hl) hk.2 hb hp
        refine ⟨by simp [delK, hne, h1], ?_⟩
        simp only [List.eraseIdx_cons_succ]
        unfold kv mdel
        rw [if_neg hne, h2]
theorem eraseIdx_get {α : Type} (l : List α) (i j : Nat) : (l.eraseIdx i)[j]? = if j < i then l[j]? else l[j + 1]? := by
  rw [List.getElem?_eraseIdx]
/-- a node goes -/
theorem TreeAt.rem {r T M i b : Nat} {bs : List Nat} {st : St} {q : Str} {n : Nd} (h : TreeAt tag σ r T M bs st) (hr : r < 64) (hr6 : r ≠ 6) (hb : bs[i]? = some b) (hp : st[i]? = some (q, n)) (k : Step [r + 64] ro tag σ tag' σ')
    (hm : MapIs tag' σ' (r + 64) M (mdel (kv st bs) q)) : TreeAt tag' σ' r T M (bs.eraseIdx i) (delK st q) := by
  obtain ⟨e1, e2⟩ := delK_idx st bs i b q n h.len h.keys hb hp
  rw [e1]
  rw [e2] at hm
  refine ⟨List.Nodup.sublist ((List.eraseIdx_sublist ..).map _) h.keys, ?_, List.Nodup.sublist (List.eraseIdx_sublist ..) h.nd, h.cell.keep k (by simp), hm, fun j c p hc hp' => ?_⟩
  · rw [List.length_eraseIdx, List.length_eraseIdx, h.len]
  · rw [eraseIdx_get] at hc hp'
    by_cases hj : j < i
    · rw [if_pos hj] at hc hp'
      exact (h.nodes j c p hc hp').keep k (by simp; omega) (by simp)
    · rw [if_neg hj] at hc hp'
      exact (h.nodes (j + 1) c p hc hp').keep k (by simp; omega) (by simp)
theorem modN_get {st : St} {u : Str} {f : Nd → Nd} {i : Nat} {q : Str} {n : Nd} (h : st[i]? = some (q, n)) (hne : q ≠ u) : (modN st u f)[i]? = some (q, n) := by
  unfold modN
  rw [List.getElem?_map, h]
  simp [hne]
theorem parent_ne {p u : Str} (h : parent p = some u) : p ≠ u := by
  unfold parent at h
  cases hp : parts p with
  | none => rw [hp] at h; cases h
  | some ps =>
    rw [hp] at h
    simp only at h
    split at h
    · cases h
    · rename_i hn
      cases h
      obtain ⟨hl, hg⟩ := parts_iff.1 hp
      intro e
      have := mk_inj hg hg.up (by rw [← hl]; exact e)
      have h1 := congrArg List.length this
      have h2 := List.length_pos_iff.2 hn
      simp at h1; omega
theorem parent_some {p : Str} {ps : List Str} (h : parts p = some ps) (hne : p ≠ [47]) : ∃ u, parent p = some u := by
  unfold parent
  rw [h]
  simp only
  rw [if_neg]
  · exact ⟨_, rfl⟩
  · intro e; obtain ⟨hl, _⟩ := parts_iff.1 h; exact hne (by rw [hl, e]; rfl)

set_option maxRecDepth 100000 in
theorem delete_ok {r T : Nat} {st : St} {p : ByteArray} {v : Int} {Q : Int → AH → Prop} (g : Glob ro) (hr : r < 64) (hr6 : r ≠ 6) (hr0 : r ≠ 0) (h : TreeIs tag σ r T st)
    (hup : ∀ u n, parent (L p) = some u → st.lookup (L p) = some n → ∃ m, st.lookup u = some m)
    (hQ : ∀ tag' σ', StepC r ro tag σ tag' σ' → TreeIs tag' σ' r T (remove st (L p) v).1 → Q (remove st (L p) v).2 σ') : c_ztree_Tree_Delete B ro (some ⟨T, 0, none⟩) p v σ Q := by
  refine ztree_Tree_Delete_ok fun hs => ?_
  unfold f_ztree_Tree_Delete
  have same : ∀ e : Int, remove st (L p) v = (st, e) → Q e σ := fun e he => by
    have := hQ tag σ (StepC.refl hs) (by rw [he]; exact h)
    rw [he] at this; exact this
  obtain ⟨M, bs, hA⟩ := h
  have hgood : L p ≠ [47] → ∀ ps, parts (L p) = some ps → ¬ (L p = [47] ∨ parts (L p) = none) := fun h1 ps h2 h3 => by
    rcases h3 with h3 | h3
    · exact h1 h3
    · rw [h2] at h3; cases h3
  refine zcheck_ok g hA hs (fun hb => ?_) (fun hne ps hps hl => ?_) (fun hne ps n hps hl hv1 hv2 => ?_) (fun hne ps i b n hps hb hp hl hv => ?_)
  · rw [if_pos (by decide)]
    exact same 20 (by unfold remove; rw [if_pos hb])
  · rw [if_pos (by decide)]
    exact same 70 (by unfold remove; rw [if_neg (hgood hne ps hps), hl])
  · rw [if_pos (by decide)]
    exact same 72 (by unfold remove; rw [if_neg (hgood hne ps hps), hl]; simp only; rw [if_pos ⟨hv1, hv2⟩])
  · rw [if_neg (by decide)]
    have hre : remove st (L p) v = if 0 < n.kids then (st, (73 : Int)) else match parent (L p) with
        | none => (st, (20 : Int))
        | some u => (delK (modN st u less) (L p), (0 : Int)) := by
      unfold remove; rw [if_neg (hgood hne ps hps), hl]; simp only; rw [if_neg (by omega)]
    obtain ⟨s, hn, hd⟩ := hA.nodes i b _ hb hp
    obtain ⟨q, hq, hg⟩ := hn.ptr hs (by simp)
    cases hq
    refine ⟨_, rfl, n.kids, hg 3 _ rfl, ?_⟩
    by_cases h1 : 0 < n.kids
    · rw [if_pos h1]
      exact same 73 (by rw [hre, if_pos h1])
    · rw [if_neg h1]
      rw [if_neg h1] at hre
      refine parent_ok g (fun hnone => ?_) (fun u hu => ?_)
      · obtain ⟨u, hu⟩ := parent_some hps hne
        rw [hu] at hnone; cases hnone
      · rw [hu] at hre
        simp only at hre
        obtain ⟨m, hm⟩ := hup u n hu hl
        refine ⟨_, rfl, _, Row.cell1 hA.cell hs, ?_⟩
        refine awp_lookup_str hA.map hs u126 u9 ty129 ?_
        rcases kv_lookup st bs u hA.len with ⟨a, e⟩ | ⟨j, c, m', c1, c2, c3, e⟩
        · rw [hm] at a; cases a
        · rw [e]
          refine ⟨some ⟨c, 0, none⟩, rfl, ?_⟩
          obtain ⟨s2, hn2, hd2⟩ := hA.nodes j c _ c1 c2
          obtain ⟨q2, hq2, hg2⟩ := hn2.ptr hs (by simp)
          cases hq2
          refine ⟨_, rfl, m'.kids, hg2 3 _ rfl, _, rfl, ?_⟩
          refine hn2.st (i := 3) hs rfl (by simp) rfl fun σ1 st1 r1 => ?_
          have hA1 := hA.write (n' := less m') hr hr6 c1 c2 st1 ⟨s2, r1, hd2.keep st1 (by simp; omega)⟩
          rw [← modN_set hA.keys c2 less] at hA1
          refine ⟨_, rfl, _, Row.cell1 hA1.cell st1.sep, ?_⟩
          rw [← S_L p]
          refine awp_delete_str hA1.map st1.sep u126 u9 fun σ2 st2 m2 => ⟨rfl, ?_⟩
          have hA2 := hA1.rem hr hr6 hb (modN_get hp (parent_ne hu)) st2 m2
          have hres := hQ tag σ2 ((st1.c (by simp; omega)).trans (st2.c (by simp; omega))) (by rw [hre]; exact ⟨M, _, hA2⟩)
          rw [hre] at hres
          exact hres

end Go.Proofs.YthfpmipeejjogaaDoor.Zt

/- The tree, the plain part: what is always true of a tree, and that each call keeps it. No program in sight. -/
namespace Go.Proofs.YthfpmipeejjogaaDoor.Zt
open Go Go.Proofs.YthfpmipeejjogaaDoor.SL Go.Proofs.YthfpmipeejjogaaDoor.Pa
set_option linter.unusedSimpArgs false
set_option linter.unusedVariables false

def kc (ks : List Str) (u : Str) : Nat := ks.countP fun k => parent k = some u
theorem lookup_mod (st : St) (u : Str) (f : Nd → Nd) (k : Str) : (modN st u f).lookup k = if k = u then (st.lookup k).map f else st.lookup k := by
  induction st with
  | nil => simp [modN]
  | cons p st ih =>
    obtain ⟨p, n⟩ := p
    unfold modN at ih ⊢
    rw [List.map_cons]
    by_cases e : p = u
    · subst e
      simp only [if_true]
      rw [List.lookup_cons, List.lookup_cons, ih]
      by_cases c : k = p
      · subst c; simp
      · rw [show (k == p) = false by simpa using c]
    · simp only [e, if_false]
      rw [List.lookup_cons, List.lookup_cons, ih]
      by_cases c : k = p
      · subst c; simp [e]
      · rw [show (k == p) = false by simpa using c]
theorem lookup_app (st : St) (q : Str) (n : Nd) (k : Str) : (st ++ [(q, n)]).lookup k = match st.lookup k with | some m => some m | none => if k = q then some n else none := by
  induction st with
  | nil =>
    rw [List.nil_append, List.lookup_cons]
    by_cases c : k = q
    · subst c; simp
    · rw [show (k == q) = false by simpa using c]; simp [c]
  | cons p st ih =>
    obtain ⟨p, m⟩ := p
    rw [List.cons_append, List.lookup_cons, List.lookup_cons, ih]
    by_cases c : k = p
    · subst c; simp
    · rw [show (k == p) = false by simpa using c]
theorem lookup_notin {st : St} {k : Str} (h : k ∉ st.map (·.1)) : st.lookup k = none := by
  rw [List.lookup_eq_none_iff]
  intro p hp
  simp
  intro e
  exact h (List.mem_map.2 ⟨p, hp, e.symm⟩)
theorem lookup_del {st : St} (hk : (st.map (·.1)).Nodup) (q k : Str) : (delK st q).lookup k = if k = q then none else st.lookup k := by
  induction st with
  | nil => simp [delK]
  | cons p st ih =>
    obtain ⟨p, n⟩ := p
    rw [List.map_cons, List.nodup_cons] at hk
    unfold delK
    by_cases e : q = p
    · subst e
      rw [if_pos rfl]
      by_cases c : k = q
      · subst c; rw [if_pos rfl]; exact lookup_notin hk.1
      · rw [if_neg c, List.lookup_cons, show (k == q) = false by simpa using c]
    · rw [if_neg e, List.lookup_cons, List.lookup_cons, ih hk.2]
      by_cases c : k = p
      · subst c; simp [show ¬ k = q from fun h => e h.symm]
      · rw [show (k == p) = false by simpa using c]
theorem keys_mod (st : St) (u : Str) (f : Nd → Nd) : (modN st u f).map (·.1) = st.map (·.1) := by
  unfold modN; rw [List.map_map]
  refine List.map_congr_left fun p _ => ?_
  simp only [Function.comp]
  split <;> rfl
theorem keys_del {st : St} {q : Str} {n : Nd} (h : st.lookup q = some n) : ∃ a b, st.map (·.1) = a ++ q :: b ∧ (delK st q).map (·.1) = a ++ b := by
  induction st with
  | nil => cases h
  | cons p st ih =>
    obtain ⟨p, m⟩ := p
    unfold delK
    by_cases e : q = p
    · subst e; exact ⟨[], st.map (·.1), rfl, by rw [if_pos rfl]; rfl⟩
    · rw [List.lookup_cons, show (q == p) = false by simpa using e] at h
      obtain ⟨a, b, h1, h2⟩ := ih h
      exact ⟨p :: a, b, by rw [List.map_cons, h1]; rfl, by rw [if_neg e, List.map_cons, h2]; rfl⟩
theorem lookup_in {st : St} {k : Str} (h : k ∈ st.map (·.1)) : ∃ n, st.lookup k = some n := by
  cases e : st.lookup k with
  | some n => exact ⟨n, rfl⟩
  | none => exact absurd h (lookup_none e)
theorem in_lookup {st : St} {k : Str} {n : Nd} (h : st.lookup k = some n) : k ∈ st.map (·.1) := Classical.byContradiction fun hn => by
  rw [lookup_notin hn] at h; cases h

structure Inv (st : St) : Prop where
  keys : (st.map (·.1)).Nodup
  root : ∃ n, st.lookup [47] = some n
  path : ∀ k n, st.lookup k = some n → ∃ ps, parts k = some ps
  up : ∀ k n, st.lookup k = some n → k ≠ [47] → ∃ u m, parent k = some u ∧ st.lookup u = some m ∧ m.own = 0
  kids : ∀ k n, st.lookup k = some n → n.kids = (kc (st.map (·.1)) k : Nat)
  ctr : ∀ k n, st.lookup k = some n → n.kids ≤ n.ctr ∧ n.ctr ≤ 10000000000
  data : ∀ k n, st.lookup k = some n → n.data.length ≤ 256
theorem inv_new : Inv St.new := by
  have hl : ∀ k n, St.new.lookup k = some n → k = [47] ∧ n = ⟨0, 0, 0, 0, []⟩ := fun k n h => by
    unfold St.new at h
    rw [List.lookup_cons] at h
    by_cases c : k = [47]
    · subst c; simp at h; exact ⟨rfl, h.symm⟩
    · rw [show (k == [47]) = false by simpa using c] at h; cases h
  refine ⟨by simp [St.new], ⟨_, rfl⟩, fun k n h => ?_, fun k n h hne => absurd (hl k n h).1 hne, fun k n h => ?_, fun k n h => ?_, fun k n h => ?_⟩
  · rw [(hl k n h).1]; exact ⟨[], rfl⟩
  · obtain ⟨rfl, rfl⟩ := hl k n h
    decide
  · rw [(hl k n h).2]; decide
  · rw [(hl k n h).2]; decide
theorem tens_no (k n : Nat) : ∀ c ∈ tens k n, c ≠ 47 := by
  induction k generalizing n with
  | zero => intro c h; cases h
  | succ k ih =>
    intro c h
    rw [tens] at h
    rcases List.mem_append.1 h with h | h
    · exact ih _ c h
    · rw [List.mem_singleton] at h
      intro e
      have h1 := congrArg UInt8.toNat (h.symm.trans e)
      have : n % 10 < 10 := Nat.mod_lt _ (by omega)
      simp at h1
      omega
/-- the path with digits behind it has the same parent -/
theorem suffix_parent {p q : Str} {n : Int} (h : suffix p n = some q) : ∃ ps, parts q = some ps ∧ parent q = parent p := by
  unfold suffix at h
  cases hp : parts p with
  | none => rw [hp] at h; cases h
  | some ps =>
    rw [hp] at h
    simp only at h
    split at h
    · cases h
    · rename_i hn
      split at h
      · rename_i hs
        cases h
        obtain ⟨qs, hqs⟩ := Option.isSome_iff_exists.1 hs
        refine ⟨qs, hqs, ?_⟩
        obtain ⟨hl, hg⟩ := parts_iff.1 hp
        obtain ⟨hql, hqg⟩ := parts_iff.1 hqs
        have hne : ps ≠ [] := fun e => hn (.inl e)
        obtain ⟨zs, x, rfl⟩ : ∃ zs x, ps = zs ++ [x] := by
          rcases List.eq_nil_or_concat ps with e | ⟨zs, x, e⟩
          · exact absurd e hne
          · exact ⟨zs, x, by rw [e, List.concat_eq_append]⟩
        have e1 : p ++ digits n = mk (zs ++ [x ++ digits n]) := by
          rw [hl, mk_snoc, mk_snoc]; simp
        have hqn : qs ≠ [] := by
          intro e
          subst e
          have h1 := congrArg List.length hql
          rw [List.length_append] at h1
          have h2 : 1 ≤ p.length := by rw [hl]; exact mk_pos _
          have h3 : (digits n).length = 10 := tens_len 10 _
          simp [mk] at h1; omega
        have e2 : qs = zs ++ [x ++ digits n] := by
          have c1 : cut ((mk qs).drop 1) = qs := by unfold mk; rw [if_neg hqn]; exact cut_mk qs hqn fun y hy => name_no (hqg.ok y hy)
          have c2 : cut ((mk (zs ++ [x ++ digits n])).drop 1) = zs ++ [x ++ digits n] := by
            unfold mk; rw [if_neg (by simp)]
            refine cut_mk _ (by simp) fun y hy => ?_
            rcases List.mem_append.1 hy with h | h
            · exact name_no (hg.ok y (by simp [h]))
            · rw [List.mem_singleton] at h
              rw [h]
              intro hm
              rcases List.mem_append.1 hm with h' | h'
              · exact name_no (hg.ok x (by simp)) h'
              · exact tens_no _ _ 47 h' rfl
          rw [← c1, ← hql, e1, c2]
        unfold parent
        rw [hqs, hp, e2]
        simp
      · cases h
theorem kc_app (a b : List Str) (u : Str) : kc (a ++ b) u = kc a u + kc b u := by unfold kc; rw [List.countP_append]
theorem kc_one (q u : Str) : kc [q] u = if parent q = some u then 1 else 0 := by unfold kc; simp [List.countP_cons]
end Go.Proofs.YthfpmipeejjogaaDoor.Zt
