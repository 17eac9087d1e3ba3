/- Paths, the plain part: names, parts, the path above, on lists of bytes. No program in sight. -/
import Derived.Test.YthfpmipeejjogaaGreatDoorStr
namespace Go.Proofs.YthfpmipeejjogaaGreatDoor.Pa
open Go Go.Proofs.YthfpmipeejjogaaGreatDoor.SL
set_option linter.unusedSimpArgs false

def okc (c : UInt8) : Bool := (97 ≤ c.toNat && c.toNat ≤ 122) || (48 ≤ c.toNat && c.toNat ≤ 57) || c.toNat == 46 || c.toNat == 95 || c.toNat == 45
def nameOk (l : Str) : Bool := decide (1 ≤ l.length) && decide (l.length ≤ 32) && (l != [46]) && (l != [46, 46]) && l.all okc
def cut : Str → List Str
  | [] => [[]]
  | c :: r => if c = 47 then [] :: cut r else match cut r with | [] => [[c]] | h :: t => (c :: h) :: t
def parts (l : Str) : Option (List Str) :=
  if l = [47] then some []
  else if l.length ≤ 128 ∧ l.head? = some 47 ∧ (cut (l.drop 1)).length ≤ 8 ∧ (cut (l.drop 1)).all nameOk = true then some (cut (l.drop 1)) else none
def mk (ps : List Str) : Str := if ps = [] then [47] else ps.flatMap (fun x => 47 :: x)

theorem cut_ne (l : Str) : cut l ≠ [] := by
  cases l with
  | nil => simp [cut]
  | cons c r => unfold cut; split <;> (try split) <;> simp
theorem name_no {x : Str} (h : nameOk x = true) : 47 ∉ x := by
  intro hm
  unfold nameOk at h
  simp only [Bool.and_eq_true, List.all_eq_true] at h
  have := h.2 47 hm
  exact absurd this (by decide)
theorem name_len {x : Str} (h : nameOk x = true) : 1 ≤ x.length ∧ x.length ≤ 32 := by
  unfold nameOk at h
  simp only [Bool.and_eq_true, decide_eq_true_eq] at h
  exact ⟨h.1.1.1.1, h.1.1.1.2⟩
theorem cut_flat (l : Str) : (cut l).flatMap (fun x => 47 :: x) = 47 :: l := by
  induction l with
  | nil => rfl
  | cons c r ih =>
    unfold cut
    split
    · rename_i h; subst h
      rw [List.flatMap_cons, ih]; rfl
    · split
      · rename_i h; exact absurd h (cut_ne r)
      · rename_i h t e
        rw [e, List.flatMap_cons] at ih
        rw [List.flatMap_cons]
        simp only [List.cons_append, List.cons.injEq, true_and] at ih ⊢
        exact ih
theorem cut_no (l : Str) : ∀ x ∈ cut l, 47 ∉ x := by
  induction l with
  | nil => intro x hx; simp [cut] at hx; subst hx; simp
  | cons c r ih =>
    intro x hx
    unfold cut at hx
    split at hx
    · rcases List.mem_cons.1 hx with h | h
      · subst h; simp
      · exact ih x h
    · rename_i hc
      split at hx
      · simp at hx; subst hx; simp; exact fun e => hc e.symm
      · rename_i h t e
        rcases List.mem_cons.1 hx with h' | h'
        · subst h'
          have := ih h (by rw [e]; simp)
          simp; exact ⟨fun e => hc e.symm, this⟩
        · exact ih x (by rw [e]; simp [h'])
theorem cut_word (x : Str) (hx : 47 ∉ x) : cut x = [x] := by
  induction x with
  | nil => rfl
  | cons c x ih =>
    simp at hx
    unfold cut
    rw [if_neg (fun e => hx.1 e.symm), ih hx.2]
theorem cut_app (x r : Str) (hx : 47 ∉ x) : cut (x ++ 47 :: r) = x :: cut r := by
  induction x with
  | nil => rw [List.nil_append]; conv => lhs; unfold cut
           rw [if_pos rfl]
  | cons c x ih =>
    simp at hx
    rw [List.cons_append]
    conv => lhs; unfold cut
    rw [if_neg (fun e => hx.1 e.symm), ih hx.2]
theorem cut_mk : ∀ (ps : List Str), ps ≠ [] → (∀ x ∈ ps, 47 ∉ x) → cut ((ps.flatMap (fun x => 47 :: x)).drop 1) = ps := by
  intro ps
  induction ps with
  | nil => intro h; exact absurd rfl h
  | cons x ps ih =>
    intro _ hx
    rw [List.flatMap_cons]
    cases ps with
    | nil => simpa using cut_word x (hx x (by simp))
    | cons y ps =>
      have := ih (by simp) fun z hz => hx z (by simp [hz])
      rw [List.flatMap_cons] at this ⊢
      simp only [List.cons_append, List.drop_succ_cons, List.drop_zero] at this ⊢
      rw [cut_app x _ (hx x (by simp)), this]
theorem mk_head (ps : List Str) : ∃ r, mk ps = 47 :: r := by
  unfold mk
  cases ps with
  | nil => exact ⟨[], rfl⟩
  | cons x ps => exact ⟨_, rfl⟩
structure Good (ps : List Str) : Prop where
  n : ps.length ≤ 8
  ok : ∀ x ∈ ps, nameOk x = true
  len : (mk ps).length ≤ 128
theorem mk_ne {ps : List Str} (hn : ps ≠ []) (hx : ∀ x ∈ ps, nameOk x = true) : mk ps ≠ [47] := by
  unfold mk; rw [if_neg hn]
  cases ps with
  | nil => exact absurd rfl hn
  | cons x ps =>
    rw [List.flatMap_cons]
    have := (name_len (hx x (by simp))).1
    intro h
    have := congrArg List.length h
    simp at this
    have : x = [] := this.1
    subst this
    simp at *
theorem parts_iff {l : Str} {ps : List Str} : parts l = some ps ↔ l = mk ps ∧ Good ps := by
  constructor
  · intro h
    unfold parts at h
    split at h
    · rename_i e; cases h; exact ⟨e, by simp, by simp, by decide⟩
    · split at h
      · rename_i e1 e2
        cases h
        obtain ⟨h1, h2, h3, h4⟩ := e2
        cases l with
        | nil => cases h2
        | cons c r =>
          cases h2
          simp only [List.drop_succ_cons, List.drop_zero] at *
          have e : mk (cut r) = 47 :: r := by unfold mk; rw [if_neg (cut_ne r), cut_flat]
          exact ⟨e.symm, h3, by simpa using h4, by rw [e]; exact h1⟩
      · cases h
  · rintro ⟨rfl, h⟩
    unfold parts
    by_cases hn : ps = []
    · subst hn; rfl
    · rw [if_neg (mk_ne hn h.ok)]
      have e : cut ((mk ps).drop 1) = ps := by unfold mk; rw [if_neg hn]; exact cut_mk ps hn fun x hx => name_no (h.ok x hx)
      rw [e, if_pos]
      obtain ⟨r, hr⟩ := mk_head ps
      exact ⟨h.len, by rw [hr]; rfl, h.n, by simpa using h.ok⟩
theorem mk_inj {ps qs : List Str} (hp : Good ps) (hq : Good qs) (h : mk ps = mk qs) : ps = qs := by
  have a := parts_iff.2 ⟨rfl, hp⟩
  have b := parts_iff.2 ⟨h, hq⟩
  rw [a] at b; exact Option.some.inj b

/-- the place of the last slash among the first n -/
def li (l : Str) : Nat → Int
  | 0 => -1
  | k + 1 => if l[k]? = some 47 then (k : Int) else li l k
theorem li_word (a x : Str) (hx : 47 ∉ x) : ∀ k, k ≤ x.length → li (a ++ 47 :: x) (a.length + 1 + k) = a.length := by
  intro k
  induction k with
  | zero => intro _; show li _ (a.length + 1) = _; unfold li; rw [if_pos (by simp)]
  | succ k ih =>
    intro hk
    show li _ ((a.length + 1 + k) + 1) = _
    unfold li
    rw [if_neg, ih (by omega)]
    rw [List.getElem?_append_right (by omega), show a.length + 1 + k - a.length = k + 1 by omega, List.getElem?_cons_succ, List.getElem?_eq_getElem (by omega)]
    intro h
    exact hx ((Option.some.inj h) ▸ List.getElem_mem _)
theorem mk_snoc (ps : List Str) (x : Str) : mk (ps ++ [x]) = (if ps = [] then [] else mk ps) ++ 47 :: x := by
  unfold mk
  rw [if_neg (by simp), List.flatMap_append]
  cases ps with
  | nil => simp
  | cons y ps => simp
def up (ps : List Str) : List Str := ps.dropLast
theorem Good.up {ps : List Str} (h : Good ps) : Good ps.dropLast := by
  rcases List.eq_nil_or_concat ps with rfl | ⟨qs, x, rfl⟩
  · exact h
  · rw [List.concat_eq_append] at h ⊢
    rw [List.dropLast_concat]
    refine ⟨by have := h.n; simp at this; omega, fun y hy => h.ok y (by simp [hy]), ?_⟩
    have := h.len
    rw [mk_snoc] at this
    split at this
    · rename_i e; subst e; decide
    · simp at this; omega

theorem idx_no : ∀ (s : Str), 47 ∉ s → Lib.index s [47] = -1 := by
  intro s
  induction s with
  | nil => intro _; rfl
  | cons b l ih =>
    intro h
    simp at h
    unfold Lib.index
    rw [if_neg (by simp; exact h.1), ih h.2]; rfl
theorem idx_at : ∀ (a r : Str), 47 ∉ a → Lib.index (a ++ 47 :: r) [47] = a.length := by
  intro a
  induction a with
  | nil => intro r _; show Lib.index (47 :: r) [47] = 0; unfold Lib.index; rw [if_pos (by simp)]
  | cons b a ih =>
    intro r h
    simp at h
    rw [List.cons_append]
    unfold Lib.index
    rw [if_neg (by simp; exact h.1), ih r h.2, if_neg (by simp)]
    simp
theorem splitK_cut : ∀ (fuel : Nat) (s : Str), s.length < fuel → Lib.splitK [47] 0 (Lib.countFrom [47] fuel s) s = cut s := by
  intro fuel
  induction fuel with
  | zero => intro s h; omega
  | succ n ih =>
    intro s h
    unfold Lib.countFrom
    by_cases hm : 47 ∈ s
    · obtain ⟨a, r, rfl, ha⟩ := List.eq_append_cons_of_mem hm
      rw [idx_at a r ha, if_neg (by simp), Nat.add_comm 1]
      unfold Lib.splitK
      rw [idx_at a r ha, if_neg (by simp)]
      simp only [Int.toNat_natCast, Nat.add_zero, List.take_left, List.length_cons, List.length_nil]
      have e : (a ++ 47 :: r).drop (a.length + 1) = r := by
        rw [show a ++ 47 :: r = (a ++ [47]) ++ r by simp, show a.length + 1 = (a ++ [47]).length by simp, List.drop_left]
      rw [show a.length + (0 + 1) = a.length + 1 by omega, e, ih r (by simp at h; omega), cut_app a r ha]
    · rw [idx_no s hm, if_pos (by rfl), cut_word s hm]; rfl
theorem split_cut (s : ByteArray) : (Lib.splitB (S [47]) 0 (Lib.countB s (S [47])) s).map L = cut (L s) := by
  rw [show (Lib.splitB (S [47]) 0 (Lib.countB s (S [47])) s).map L = Lib.splitK [47] 0 (Lib.countB s (S [47])) (L s) from Lib.splitB_data _ _ _ _]
  have : Lib.countB s (S [47]) = Lib.count (L s) [47] := rfl
  rw [this]
  exact splitK_cut _ _ (by omega)
end Go.Proofs.YthfpmipeejjogaaGreatDoor.Pa
