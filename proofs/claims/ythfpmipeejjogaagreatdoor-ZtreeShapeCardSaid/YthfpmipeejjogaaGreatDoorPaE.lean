/- Paths, the walk: the document's Make, Parent, Base, Under, and package path's Under. -/
import Derived.Test.YthfpmipeejjogaaGreatDoorPaD
namespace Go.Proofs.YthfpmipeejjogaaGreatDoor.Pa
open Go Go.Proofs.YthfpmipeejjogaaGreatDoor.SL Go.Proofs.YthfpmipeejjogaaGreatDoor.G Go.RowKit
set_option linter.unusedSimpArgs false
set_option linter.unusedVariables false
variable {B : World} {ro σ σ' : AH} {tag tag' : Nat → Nat}

theorem mk_take_len (ps : List Str) : ∀ j, j ≤ ps.length → ((ps.take j).flatMap (fun x => 47 :: x)).length ≤ (ps.flatMap (fun x => 47 :: x)).length := by
  intro j hj
  conv => rhs; rw [← List.take_append_drop j ps]
  rw [List.flatMap_append, List.length_append]; omega
theorem rmake_ok {r : Nat} {s : Sl} {ps : List Str} {Q : ByteArray → AH → Prop} (h : Row tag σ r 9 s (ps.map vS)) (hs : SL.Sep ro σ) (hn : ps.length < 4611686018427387904) (hl : (mk ps).length < 4611686018427387904) (hQ : Q (S (mk ps)) σ) : c_ref02_Make B ro s σ Q := by
  refine ref02_Make_ok fun _ => ?_
  unfold f_ref02_Make
  have hln : s.len = ps.length := by rw [h.len, List.length_map]
  by_cases h0 : ps = []
  · subst h0
    rw [if_pos (by rw [hln]; rfl)]
    exact hQ
  · have hpos : 0 < ps.length := List.length_pos_iff.2 h0
    rw [if_neg (by omega)]
    unfold mk at hl hQ
    rw [if_neg h0] at hl hQ
    suffices ∀ m j, j + m = ps.length → lfpD (l3_ref02_Make B ro s Q) (S ((ps.take j).flatMap (fun x => 47 :: x)), (j : Int)) σ from this ps.length 0 (Nat.zero_add _)
    intro m
    induction m with
    | zero =>
      intro j hj
      refine lfpD.intro ?_
      unfold l3_ref02_Make
      simp only
      rw [if_neg (by omega), List.take_of_length_le (by omega)]
      exact hQ
    | succ m ih =>
      intro j hj
      have hjl : j < ps.length := by omega
      obtain ⟨p, hp, _, hg⟩ := Row.sget h hs hjl
      have h1 := mk_take_len ps (j + 1) (by omega)
      rw [List.take_succ_eq_append_getElem hjl, List.flatMap_append, List.length_append] at h1
      simp only [List.flatMap_cons, List.flatMap_nil, List.append_nil, List.length_cons] at h1
      refine lfpD.intro ?_
      unfold l3_ref02_Make
      simp only
      rw [if_pos (by omega)]
      refine ⟨p, hp, by omega, by omega, _, hg j hjl, by show 1 + (S ps[j]).size ≤ _; simp only [S_size]; omega, ?_, ?_⟩
      · show _ + ((S [47]) ++ S ps[j]).size ≤ _
        rw [S_append]; simp only [S_size, List.length_append, List.length_cons, List.length_nil]; omega
      · rw [inc j (by omega)]
        show lfpD _ (S ((ps.take j).flatMap (fun x => 47 :: x)) ++ (S [47] ++ S ps[j]), _) σ
        rw [S_append, S_append]
        have := ih (j + 1) (by omega)
        rw [List.take_succ_eq_append_getElem hjl, List.flatMap_append, List.flatMap_cons, List.flatMap_nil, List.append_nil] at this
        exact this

theorem good_small {ps : List Str} (h : Good ps) : ps.length < 4611686018427387904 ∧ (mk ps).length < 4611686018427387904 := by
  have := h.n; have := h.len; omega

theorem cutA_same (a : Option Addr) (c s : Nat) : cutA a 0 c s = a := by
  unfold cutA; split
  · rfl
  · cases a <;> simp
theorem Row.cap {r : Nat} {e : TypeId} {s : Sl} {l : List Value} (h : Row tag σ r e s l) : s.len ≤ s.cap := by
  rcases h with ⟨e, _⟩ | ⟨_, _, _, _, _, _, _, h, _⟩
  · rw [e]; exact Nat.le_refl _
  · exact h

theorem rparent_ok {s : ByteArray} {Q : ByteArray → Bool → AH → Prop} (hnone : parent (L s) = none → Q (⟨#[]⟩ : ByteArray) false σ) (hsome : ∀ u, parent (L s) = some u → Q (S u) true σ) : c_ref02_Parent B ro s σ Q := by
  refine ACalls.quiet (R := fun v => ∃ r0 r1, v = .tuple #[.string r0, .bool r1] ∧ ((parent (L s) = none ∧ r0 = (⟨#[]⟩ : ByteArray) ∧ r1 = false) ∨ ∃ u, parent (L s) = some u ∧ r0 = S u ∧ r1 = true)) ?_ ?_
  · have : c_ref02_Parent B ro s (fun _ => none) fun r0 r1 _ => (parent (L s) = none ∧ r0 = (⟨#[]⟩ : ByteArray) ∧ r1 = false) ∨ ∃ u, parent (L s) = some u ∧ r0 = S u ∧ r1 = true := by
      refine ref02_Parent_ok fun hs => ?_
      unfold f_ref02_Parent
      refine rparts_ok (tag := fun _ => 0) 1 (fun h sl σ' => ?_) (fun ps hps sl tag' σ' st hr => ?_)
      · rw [if_pos (by simp)]
        exact .inl ⟨by unfold parent; rw [h], rfl, rfl⟩
      · have hln : sl.len = ps.length := by rw [hr.len, List.length_map]
        by_cases h0 : ps = []
        · rw [if_pos (by right; rw [hln, h0]; rfl)]
          exact .inl ⟨by unfold parent; rw [hps, h0]; rfl, rfl, rfl⟩
        · have hpos : 0 < ps.length := List.length_pos_iff.2 h0
          rw [if_neg (by simp; omega)]
          obtain ⟨_, hg⟩ := parts_iff.1 hps
          have h8 := hg.n
          rw [SL.w64_eq (by omega) (by omega)]
          refine ⟨⟨⟨by omega, by have := Row.cap hr; omega⟩, trivial⟩, ?_⟩
          have e : Int.toNat ((sl.len : Int) - 1) - 0 = ps.length - 1 := by omega
          rw [e, cutA_same]
          have ht := hr.take (n := ps.length - 1) (by simp)
          rw [← List.map_take, ← List.dropLast_eq_take] at ht
          have hg' := hg.up
          refine rmake_ok ht st.sep (good_small hg').1 (good_small hg').2 ?_
          exact .inr ⟨_, by unfold parent; rw [hps]; simp [h0], rfl, rfl⟩
    exact ACalls.mono this fun v τ ⟨r0, r1, hv, h⟩ => ⟨r0, r1, hv, h⟩
  · rintro v ⟨r0, r1, hv, ⟨h, rfl, rfl⟩ | ⟨u, h, rfl, rfl⟩⟩
    · exact ⟨_, _, hv, hnone h⟩
    · exact ⟨_, _, hv, hsome u h⟩
/-! one path below another -/
theorem cut_app' (a r : Str) : cut (a ++ 47 :: r) = cut a ++ cut r := by
  induction a with
  | nil => rw [List.nil_append]; conv => lhs; unfold cut
           rw [if_pos rfl]; rfl
  | cons c a ih =>
    rw [List.cons_append]
    conv => lhs; unfold cut
    conv => rhs; arg 1; unfold cut
    by_cases h : c = 47
    · rw [if_pos h, if_pos h, ih]; rfl
    · rw [if_neg h, if_neg h, ih]
      cases hc : cut a with
      | nil => exact absurd hc (cut_ne a)
      | cons x xs => rfl
theorem under_iff {ps qs : List Str} (hp : Good ps) (hq : Good qs) (hn : ps ≠ []) : (mk qs = mk ps ∨ (mk ps ++ [47]) <+: mk qs) ↔ ps <+: qs := by
  have hcp : cut ((mk ps).drop 1) = ps := by unfold mk; rw [if_neg hn]; exact cut_mk ps hn fun x hx => name_no (hp.ok x hx)
  constructor
  · rintro (h | ⟨r, h⟩)
    · rw [mk_inj hq hp h]; exact List.prefix_refl _
    · have hqn : qs ≠ [] := by
        intro e
        subst e
        have h1 := congrArg List.length h
        have h2 := mk_pos ps
        simp [mk] at h1
        simp only [mk] at h2
        omega
      have hcq : cut ((mk qs).drop 1) = qs := by unfold mk; rw [if_neg hqn]; exact cut_mk qs hqn fun x hx => name_no (hq.ok x hx)
      have e : (mk qs).drop 1 = (mk ps).drop 1 ++ 47 :: r := by
        rw [← h, List.append_assoc, List.drop_append_of_le_length (mk_pos ps)]; rfl
      rw [e, cut_app', hcp] at hcq
      exact ⟨_, hcq⟩
  · rintro ⟨t, rfl⟩
    cases t with
    | nil => left; rw [List.append_nil]
    | cons x t =>
      right
      have e : mk (ps ++ x :: t) = mk ps ++ [47] ++ (x ++ t.flatMap (fun x => 47 :: x)) := by
        unfold mk
        rw [if_neg (by simp), if_neg hn, List.flatMap_append, List.flatMap_cons]; simp
      exact ⟨_, e.symm⟩
def under (p q : Str) : Option Bool := match parts p, parts q with | some ps, some qs => some (ps.isPrefixOf qs) | _, _ => none
theorem under_ok {p q : ByteArray} {Q : Bool → Int → AH → Prop} (g : Glob ro) (hnone : under (L p) (L q) = none → Q false 20 σ) (hsome : ∀ b, under (L p) (L q) = some b → Q b 0 σ) : c_path_Under B ro p q σ Q := by
  refine path_Under_ok fun hs => ?_
  unfold f_path_Under
  refine check_ok g ?_
  by_cases h1 : chk (L p) = 0
  · rw [if_neg (by simpa using h1)]
    obtain ⟨ps, hps⟩ := chk_zero.1 h1
    refine check_ok g ?_
    unfold j2_path_Under
    by_cases h2 : chk (L q) = 0
    · rw [if_neg (by simpa using h2)]
      obtain ⟨qs, hqs⟩ := chk_zero.1 h2
      obtain ⟨hpl, hpg⟩ := parts_iff.1 hps
      obtain ⟨hql, hqg⟩ := parts_iff.1 hqs
      have hu : under (L p) (L q) = some (ps.isPrefixOf qs) := by unfold under; rw [hps, hqs]
      have hres := hsome _ hu
      unfold j4_path_Under
      by_cases h3 : p = ⟨#[47]⟩ ∨ q = p
      · rw [if_pos h3]
        have : ps.isPrefixOf qs = true := by
          rw [List.isPrefixOf_iff_prefix]
          rcases h3 with h | h
          · have : ps = [] := (slash_iff hpg).1 (by rw [← hpl, h]; rfl)
            rw [this]; exact List.nil_prefix
          · have : ps = qs := by rw [h, hps] at hqs; exact Option.some.inj hqs
            rw [this]; exact List.prefix_refl _
        rw [this] at hres; exact hres
      · rw [if_neg h3]
        have hn : ps ≠ [] := fun e => h3 (.inl (L_inj (by rw [hpl, e]; rfl)))
        have h128 := hpg.len
        have hsz : p.size = (mk ps).length := by rw [← L_len, hpl]
        refine ⟨by show p.size + 1 ≤ _; omega, ?_⟩
        refine hasPrefix_ok ?_
        have e : (L (p ++ (⟨#[47]⟩ : ByteArray))).isPrefixOf (L q) = ps.isPrefixOf qs := by
          rw [L_append, hpl, hql, Bool.eq_iff_iff, List.isPrefixOf_iff_prefix, List.isPrefixOf_iff_prefix, ← under_iff hpg hqg hn]
          constructor
          · intro h; exact .inr h
          · rintro (h | h)
            · exact absurd (.inr (L_inj (by rw [hpl, hql, h]))) h3
            · exact h
        rw [e]; exact hres
    · rw [if_pos (by simpa using h2)]
      refine hnone ?_
      unfold under
      cases h : parts (L q) with
      | none => cases parts (L p) <;> rfl
      | some qs => exact absurd (chk_zero.2 ⟨qs, h⟩) h2
  · rw [if_pos (by simpa using h1)]
    unfold j2_path_Under
    rw [if_pos rfl]
    refine hnone ?_
    unfold under
    cases h : parts (L p) with
    | none => rfl
    | some qs => exact absurd (chk_zero.2 ⟨qs, h⟩) h1
end Go.Proofs.YthfpmipeejjogaaGreatDoor.Pa
