/- MuC -/
import Derived.Test.YthfpmipeejjogaaGreatDoorXJ
/- One change of several, the pure part. -/
namespace Go.Proofs.YthfpmipeejjogaaGreatDoor.Zt
open Go Go.Proofs.YthfpmipeejjogaaGreatDoor.SL Go.Proofs.YthfpmipeejjogaaGreatDoor.Pa
set_option linter.unusedSimpArgs false
set_option linter.unusedVariables false

structure MOp where
  kind : Int
  path : Str
  data : Str
  ver : Int
  eph : Bool
  seq : Bool
structure Work where
  st : St
  res : List (Str × Int)
  eff : List (Int × Str)
def withinE (home : Str) (o : MOp) : Int :=
  if o.kind < 1 ∨ 4 < o.kind then 80
  else match parts o.path with
    | none => 20
    | some ps => if ps.head? ≠ some home ∨ (ps.length = 1 ∧ o.kind ≤ 2) then 82 else 0
def chkE (st : St) (p : Str) (v : Int) : Int := match st.lookup p with
  | none => 70
  | some n => if v ≠ -1 ∧ v ≠ n.ver then 72 else 0
/-- the change itself: the tree, the path, the version, the error -/
def core (owner : Int) (st : St) (o : MOp) : St × Str × Int × Int :=
  if o.kind = 1 then ((create st o.path o.data (if o.eph then owner else 0) o.seq).1, (create st o.path o.data (if o.eph then owner else 0) o.seq).2.1, 0, (create st o.path o.data (if o.eph then owner else 0) o.seq).2.2)
  else if o.kind = 2 then ((remove st o.path o.ver).1, [], 0, (remove st o.path o.ver).2)
  else if o.kind = 3 then ((setD st o.path o.data o.ver).1, [], (setD st o.path o.data o.ver).2.1, (setD st o.path o.data o.ver).2.2)
  else (st, [], 0, chkE st o.path o.ver)
def overE (st : St) (home : Str) (qn qb : Int) (kind : Int) : Bool := (decide (kind = 1) || decide (kind = 3)) && (decide (qn < ((usage st home).1 : Nat)) || decide (qb < ((usage st home).2 : Nat)))
def doE (home : Str) (owner qn qb : Int) (w : Work) (o : MOp) : Int × Work :=
  if withinE home o ≠ 0 then (withinE home o, w)
  else if (core owner w.st o).2.2.2 ≠ 0 then ((core owner w.st o).2.2.2, { w with st := (core owner w.st o).1 })
  else if overE (core owner w.st o).1 home qn qb o.kind then (81, { w with st := (core owner w.st o).1 })
  else (0, ⟨(core owner w.st o).1, w.res ++ [((core owner w.st o).2.1, (core owner w.st o).2.2.1)], if o.kind = 4 then w.eff else w.eff ++ [(o.kind, if o.kind = 1 then (core owner w.st o).2.1 else o.path)]⟩)
theorem core_inv {b : Nat} {owner : Int} {st : St} {o : MOp} (h : InvB b st) (hb : b ≤ 4398046511103) : InvB (b + 1) (core owner st o).1 := by
  unfold core
  split
  · exact invB_create h hb
  · split
    · exact invB_remove h hb
    · split
      · exact invB_set h hb
      · exact h.mono (by omega)
theorem doE_inv {b : Nat} {home : Str} {owner qn qb : Int} {w : Work} {o : MOp} (h : InvB b w.st) (hb : b ≤ 4398046511103) : InvB (b + 1) (doE home owner qn qb w o).2.st := by
  unfold doE
  split
  · exact h.mono (by omega)
  · split
    · exact core_inv h hb
    · split
      · exact core_inv h hb
      · exact core_inv h hb
theorem doE_len {home : Str} {owner qn qb : Int} {w : Work} {o : MOp} : (doE home owner qn qb w o).2.res.length ≤ w.res.length + 1 ∧ (doE home owner qn qb w o).2.eff.length ≤ w.eff.length + 1 := by
  unfold doE
  split
  · exact ⟨by simp, by simp⟩
  · split
    · exact ⟨by simp, by simp⟩
    · split
      · exact ⟨by simp, by simp⟩
      · refine ⟨by simp, ?_⟩
        simp only
        split <;> simp
end Go.Proofs.YthfpmipeejjogaaGreatDoor.Zt
