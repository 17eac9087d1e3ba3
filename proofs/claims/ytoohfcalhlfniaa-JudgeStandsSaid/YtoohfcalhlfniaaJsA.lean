/- JudgeStands, the plain part: the heap of numbers and the order that Arrange makes, as functions on lists, and what is true of them. No program in sight. -/
import Derived.Test.YtoohfcalhlfniaaBase9
namespace Go.Proofs.Ytoohfcalhlfniaa.Js
open Go

abbrev w64 (x : Int) : Int := IntKind.i64.wrap x
def swp (l : List Nat) (i j : Nat) : List Nat := (l.set i (l.getD j 0)).set j (l.getD i 0)
def up : Nat → List Nat → Nat → List Nat
  | 0, l, _ => l
  | f + 1, l, j => if (j - 1) / 2 = j then l else if l.getD j 0 < l.getD ((j - 1) / 2) 0 then up f (swp l ((j - 1) / 2) j) ((j - 1) / 2) else l
def child (l : List Nat) (n i : Nat) : Nat := if 2 * i + 2 < n ∧ l.getD (2 * i + 2) 0 < l.getD (2 * i + 1) 0 then 2 * i + 2 else 2 * i + 1
def down : Nat → List Nat → Nat → Nat → List Nat
  | 0, l, _, _ => l
  | f + 1, l, n, i => if n ≤ 2 * i + 1 then l else if l.getD (child l n i) 0 < l.getD i 0 then down f (swp l i (child l n i)) n (child l n i) else l
def push (l : List Nat) (x : Nat) : List Nat := up (l.length + 1) (l ++ [x]) l.length
/-- the heap as it stands ahead of the last step of a pop -/
def sink (l : List Nat) : List Nat := down l.length (swp l 0 (l.length - 1)) (l.length - 1) 0
def popTop (l : List Nat) : Nat := (sink l).getD (l.length - 1) 0
def popRest (l : List Nat) : List Nat := (sink l).take (l.length - 1)

theorem getD_get {α : Type} (l : List α) (d : α) {i : Nat} (h : i < l.length) : l.getD i d = l[i] := by simp [List.getD, h]
theorem swp_length (l : List Nat) (i j : Nat) : (swp l i j).length = l.length := by simp [swp]
theorem swp_perm (l : List Nat) (i j : Nat) (hi : i < l.length) (hj : j < l.length) : (swp l i j).Perm l := by
  unfold swp
  rw [getD_get _ _ hj, getD_get _ _ hi]
  exact List.set_set_perm hi hj
theorem up_length : ∀ (f : Nat) (l : List Nat) (j : Nat), (up f l j).length = l.length := by
  intro f
  induction f with
  | zero => intro l j; rfl
  | succ f ih =>
    intro l j
    unfold up
    split
    · rfl
    · split
      · rw [ih, swp_length]
      · rfl
theorem up_perm : ∀ (f : Nat) (l : List Nat) (j : Nat), j < l.length → (up f l j).Perm l := by
  intro f
  induction f with
  | zero => intro l j _; exact .refl _
  | succ f ih =>
    intro l j hj
    unfold up
    split
    · exact .refl _
    · split
      · exact (ih _ _ (by rw [swp_length]; omega)).trans (swp_perm _ _ _ (by omega) hj)
      · exact .refl _
theorem child_lt (l : List Nat) (n i : Nat) (h : 2 * i + 1 < n) : child l n i < n := by unfold child; split <;> omega
theorem down_length : ∀ (f : Nat) (l : List Nat) (n i : Nat), (down f l n i).length = l.length := by
  intro f
  induction f with
  | zero => intro l n i; rfl
  | succ f ih =>
    intro l n i
    unfold down
    split
    · rfl
    · split
      · rw [ih, swp_length]
      · rfl
theorem down_perm : ∀ (f : Nat) (l : List Nat) (n i : Nat), n ≤ l.length → i < l.length → (down f l n i).Perm l := by
  intro f
  induction f with
  | zero => intro l n i _ _; exact .refl _
  | succ f ih =>
    intro l n i hn hi
    unfold down
    split
    · exact .refl _
    · have hc := child_lt l n i (by omega)
      split
      · exact (ih _ _ _ (by rw [swp_length]; exact hn) (by rw [swp_length]; omega)).trans (swp_perm _ _ _ hi (by omega))
      · exact .refl _
theorem push_perm (l : List Nat) (x : Nat) : (push l x).Perm (x :: l) := by
  refine (up_perm _ _ _ (by simp)).trans ?_
  exact List.perm_append_singleton x l
theorem sink_length (l : List Nat) : (sink l).length = l.length := by unfold sink; rw [down_length, swp_length]
theorem pop_perm (l : List Nat) (h : 0 < l.length) : l.Perm (popTop l :: popRest l) := by
  have h1 : (sink l).Perm l := by
    unfold sink
    exact (down_perm _ _ _ _ (by rw [swp_length]; omega) (by rw [swp_length]; omega)).trans (swp_perm _ _ _ h (by omega))
  have h2 : sink l = popRest l ++ [popTop l] := by
    unfold popRest popTop
    have hl := sink_length l
    rw [getD_get _ _ (by omega)]
    conv => lhs; rw [← List.take_append_drop (l.length - 1) (sink l)]
    congr 1
    rw [List.drop_eq_getElem_cons (by omega)]
    congr 1
    exact List.drop_eq_nil_of_le (by omega)
  rw [h2] at h1
  exact h1.symm.trans (List.perm_append_singleton _ _)

/-! what Arrange does -/
def most : Nat := 1048576
def inner : List Nat → List Nat → List Int → Option (List Nat × List Int)
  | [], f, w => some (f, w)
  | k :: ks, f, w =>
    if w64 (w.getD k 0 - 1) = 0 then
      (if f.length < most then inner ks (push f k) (w.set k (w64 (w.getD k 0 - 1))) else none)
    else inner ks f (w.set k (w64 (w.getD k 0 - 1)))
def run : Nat → List (List Nat) → List Nat → List Int → List Nat → Option (List Nat)
  | 0, _, _, _, _ => none
  | F + 1, bs, f, w, out =>
    if f.length = 0 then some out
    else if most ≤ out.length then none
    else match inner (bs.getD (popTop f) []) (popRest f) w with
      | none => none
      | some (f', w') => run F bs f' w' (out ++ [popTop f])
def start : Nat → Nat → List Nat → List Int → Option (List Nat)
  | 0, _, f, _ => some f
  | m + 1, i, f, w => if w.getD i 0 = 0 then (if f.length < most then start m (i + 1) (push f i) w else none) else start m (i + 1) f w
def bump1 (bs : List (List Nat)) (p : Nat × Nat) : List (List Nat) := bs.set p.1 (bs.getD p.1 [] ++ [p.2])
def bump2 (w : List Int) (p : Nat × Nat) : List Int := w.set p.2 (w64 (w.getD p.2 0 + 1))
def arrange (n : Nat) (ps : List (Nat × Nat)) : Option (List Nat) :=
  match start n 0 [] (ps.foldl bump2 (List.replicate n 0)) with
  | none => none
  | some f => run (n + 1) (ps.foldl bump1 (List.replicate n [])) f (ps.foldl bump2 (List.replicate n 0)) []

theorem awake_arrange : arrange 3 [(2, 0)] = some [1, 2, 0] := by decide
end Go.Proofs.Ytoohfcalhlfniaa.Js
