/- Behind any calls each node of the tree but the root has its parent, no node stands below one that has an owner, and no counter is less than the nodes right below: for every script, whatever its calls. No condition beside what the card says of the package variables, which are as the program's text lays them. -/
import Derived.Test.YthfpmipeejjogaaGreatDoorZtRow
import Derived.Test.YthfpmipeejjogaaGreatDoorCards
import Derived.Test.YthfpmipeejjogaaGreatDoorTie
import Derived.SevenTiedAt
namespace Go.Proofs.YthfpmipeejjogaaGreatDoor
open Go
/-- The card, for the claim. -/
theorem ztreeShape_holds : Rows.ZtreeShapeCardSaid :=
  Claim7.holds_tied_plain_at .later [] [.data, .data, .data, .data, .pinned] true (true, "0795d736229012fdcd1938897e17abbc5ba3a3355eb54bd2e5fc828daec2c83e") false
    Zt.over (fun _ h => by cases h) (by kernel_rfl) (fun _ h => by cases h) ztreeShape_row_tie rfl ⟨rfl, rfl⟩ (by kernel_rfl) rfl
    (fun f fn hf hfn => by
      obtain rfl : f = 3 := Option.some.inj ((show Tryz.prog.funcNamed "althing/althinglaw07.ZtreeShape" = some 3 by kernel_rfl).symm.trans hf) |>.symm
      obtain rfl : fn = Tryz.f3 := (Option.some.inj (Tryz.func3.symm.trans hfn)).symm
      exact ⟨by kernel_rfl, fun j t ht => by
        rw [Tryz.params3] at ht
        have hm : t ∈ [22] := by simpa using Array.mem_of_getElem? ht
        have hall : ([22].all fun u => !Tryz.prog.wantsStandIn u) = true := by kernel_rfl
        exact (show Tryz.prog.wantsStandIn t = false by simpa using List.all_eq_true.1 hall t hm)⟩)
    (by kernel_rfl)
end Go.Proofs.YthfpmipeejjogaaGreatDoor
#print axioms Go.Proofs.YthfpmipeejjogaaGreatDoor.ztreeShape_holds
