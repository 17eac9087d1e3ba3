/-
  DERIVED. GIVEN WITH THE SEED: THE CARDS: each row of YthfpmipeejjogaaDoorRows.lean that lists a variable, with what it lists TIED to the program's text (the seventh form; the later family's looks); each row that meets fmt, with fmt's text TOLD by the authors' own Lean function (tested against real Go, not proved from fmt's source: count such statements apart). THE CARD IS WHAT COUNTS. Prove the row's statement (the work); the ties are given (YthfpmipeejjogaaDoorTie.lean); close each card by the builder's one call (the guide's Derived/Test/ToyasCard.lean, 'card_holds'). Laid BY PROGRAM, IN A SANDBOX (cutbox-door.mjs). By AI agents, Wed Nov 11 2026. No macro, syntax, notation, axiom, sorry.
-/
import Derived.Test.YthfpmipeejjogaaDoorRows
import GoSem.ClaimSeven
namespace Go.Proofs.YthfpmipeejjogaaDoor
namespace Rows

/-- THE TIED CARD OF 'althinglaw07.ZtreeNames'. -/
def ztreeNamesCard : Claim7 := { stood := { row := ztreeNamesRow, standIns := [], harness := (true, "1842d8c37e396c29bef211a41ac0ace5755934ccb3ae598328fd11e1c719355c"), looks := false }, kinds := [], alts := [], laidByText := true, laidKinds := [.data, .data, .data, .data, .pinned], laidTests := true, laidLooks := .later }
def ZtreeNamesCardSaid : Prop := Claim7.holds Tryd.pinned (.plain (OpenSpec.ofChange ztreeNamesSpec)) ztreeNamesCard

/-- THE SECOND FORM's CARD OF 'althinglaw07.ZtreeNames'. -/
def ztreeNamesUptoCard : Claim7 := { stood := { row := ztreeNamesUptoRow, standIns := [], harness := (true, "1842d8c37e396c29bef211a41ac0ace5755934ccb3ae598328fd11e1c719355c"), looks := false }, kinds := [], alts := [], laidByText := true, laidKinds := [.data, .data, .data, .data, .pinned], laidTests := true, laidLooks := .later }
def ZtreeNamesUptoCardSaid : Prop := Claim7.holds Tryd.pinned (.plain (OpenSpec.upto ztreeNamesSpec)) ztreeNamesUptoCard
end Rows
end Go.Proofs.YthfpmipeejjogaaDoor
