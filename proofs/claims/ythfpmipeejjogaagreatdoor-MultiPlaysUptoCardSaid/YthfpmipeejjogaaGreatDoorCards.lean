/-
  DERIVED. GIVEN WITH THE SEED: THE CARDS: each row of YthfpmipeejjogaaGreatDoorRows.lean that lists a variable, with what it lists TIED to the program's text (the seventh form; the later family's looks); each row that meets fmt, with fmt's text TOLD by the authors' own Lean function (tested against real Go, not proved from fmt's source: count such statements apart). THE CARD IS WHAT COUNTS. Prove the row's statement (the work); the ties are given (YthfpmipeejjogaaGreatDoorTie.lean); close each card by the builder's one call (the guide's Derived/Test/ToyasCard.lean, 'card_holds'). Laid BY PROGRAM, IN A SANDBOX (cutbox-door.mjs). By AI agents, Wed Nov 11 2026. No macro, syntax, notation, axiom, sorry.
-/
import Derived.Test.YthfpmipeejjogaaGreatDoorRows
import GoSem.ClaimSeven
namespace Go.Proofs.YthfpmipeejjogaaGreatDoor
namespace Rows

/-- THE TIED CARD OF 'althinglaw07.ZtreeShape'. -/
def ztreeShapeCard : Claim7 := { stood := { row := ztreeShapeRow, standIns := [], harness := (true, "0795d736229012fdcd1938897e17abbc5ba3a3355eb54bd2e5fc828daec2c83e"), looks := false }, kinds := [], alts := [], laidByText := true, laidKinds := [.data, .data, .data, .data, .pinned], laidTests := true, laidLooks := .later }
def ZtreeShapeCardSaid : Prop := Claim7.holds Tryz.pinned (.plain (OpenSpec.ofChange ztreeShapeSpec)) ztreeShapeCard

/-- THE TIED CARD OF 'althinglaw07.ZtreeStill'. -/
def ztreeStillCard : Claim7 := { stood := { row := ztreeStillRow, standIns := [], harness := (true, "0795d736229012fdcd1938897e17abbc5ba3a3355eb54bd2e5fc828daec2c83e"), looks := false }, kinds := [], alts := [], laidByText := true, laidKinds := [.data, .data, .data, .data, .sentinel, .pinned], laidTests := true, laidLooks := .later }
def ZtreeStillCardSaid : Prop := Claim7.holds Tryz.pinned (.plain (OpenSpec.ofChange ztreeStillSpec)) ztreeStillCard

/-- THE TIED CARD OF 'althinglaw07.ZtreeBack'. -/
def ztreeBackCard : Claim7 := { stood := { row := ztreeBackRow, standIns := [], harness := (true, "0795d736229012fdcd1938897e17abbc5ba3a3355eb54bd2e5fc828daec2c83e"), looks := false }, kinds := [], alts := [], laidByText := true, laidKinds := [.data, .data, .data, .data, .sentinel, .pinned], laidTests := true, laidLooks := .later }
def ZtreeBackCardSaid : Prop := Claim7.holds Tryz.pinned (.plain (OpenSpec.ofChange ztreeBackSpec)) ztreeBackCard

/-- THE TIED CARD OF 'althinglaw07.ZtreeDecodes'. -/
def ztreeDecodesCard : Claim7 := { stood := { row := ztreeDecodesRow, standIns := [], harness := (true, "0795d736229012fdcd1938897e17abbc5ba3a3355eb54bd2e5fc828daec2c83e"), looks := false }, kinds := [], alts := [], laidByText := true, laidKinds := [.data, .data, .data, .data, .sentinel, .pinned], laidTests := true, laidLooks := .later }
def ZtreeDecodesCardSaid : Prop := Claim7.holds Tryz.pinned (.plain (OpenSpec.ofChange ztreeDecodesSpec)) ztreeDecodesCard

/-- THE TIED CARD OF 'althinglaw07.ZtreePlays'. -/
def ztreePlaysCard : Claim7 := { stood := { row := ztreePlaysRow, standIns := [], harness := (true, "0795d736229012fdcd1938897e17abbc5ba3a3355eb54bd2e5fc828daec2c83e"), looks := false }, kinds := [], alts := [], laidByText := true, laidKinds := [.data, .data, .data, .data, .sentinel, .pinned], laidTests := true, laidLooks := .later }
def ZtreePlaysCardSaid : Prop := Claim7.holds Tryz.pinned (.plain (OpenSpec.ofChange ztreePlaysSpec)) ztreePlaysCard

/-- THE TIED CARD OF 'althinglaw08.MultiWhole'. -/
def multiWholeCard : Claim7 := { stood := { row := multiWholeRow, standIns := [], harness := (true, "0795d736229012fdcd1938897e17abbc5ba3a3355eb54bd2e5fc828daec2c83e"), looks := false }, kinds := [], alts := [], laidByText := true, laidKinds := [.data, .data, .data, .data, .sentinel, .pinned], laidTests := true, laidLooks := .later }
def MultiWholeCardSaid : Prop := Claim7.holds Tryz.pinned (.plain (OpenSpec.ofChange multiWholeSpec)) multiWholeCard

/-- THE TIED CARD OF 'althinglaw08.MultiBounds'. -/
def multiBoundsCard : Claim7 := { stood := { row := multiBoundsRow, standIns := [], harness := (true, "0795d736229012fdcd1938897e17abbc5ba3a3355eb54bd2e5fc828daec2c83e"), looks := false }, kinds := [], alts := [], laidByText := true, laidKinds := [.data, .data, .data, .data, .sentinel, .pinned], laidTests := true, laidLooks := .later }
def MultiBoundsCardSaid : Prop := Claim7.holds Tryz.pinned (.plain (OpenSpec.ofChange multiBoundsSpec)) multiBoundsCard

/-- THE TIED CARD OF 'althinglaw08.MultiApart'. -/
def multiApartCard : Claim7 := { stood := { row := multiApartRow, standIns := [], harness := (true, "0795d736229012fdcd1938897e17abbc5ba3a3355eb54bd2e5fc828daec2c83e"), looks := false }, kinds := [], alts := [], laidByText := true, laidKinds := [.data, .data, .data, .data, .sentinel, .pinned], laidTests := true, laidLooks := .later }
def MultiApartCardSaid : Prop := Claim7.holds Tryz.pinned (.plain (OpenSpec.ofChange multiApartSpec)) multiApartCard

/-- THE TIED CARD OF 'althinglaw08.MultiPlays'. -/
def multiPlaysCard : Claim7 := { stood := { row := multiPlaysRow, standIns := [], harness := (true, "0795d736229012fdcd1938897e17abbc5ba3a3355eb54bd2e5fc828daec2c83e"), looks := false }, kinds := [], alts := [], laidByText := true, laidKinds := [.data, .data, .data, .data, .sentinel, .pinned], laidTests := true, laidLooks := .later }
def MultiPlaysCardSaid : Prop := Claim7.holds Tryz.pinned (.plain (OpenSpec.ofChange multiPlaysSpec)) multiPlaysCard

/-- THE TIED CARD OF 'althinglaw08.MultiSweeps'. -/
def multiSweepsCard : Claim7 := { stood := { row := multiSweepsRow, standIns := [], harness := (true, "0795d736229012fdcd1938897e17abbc5ba3a3355eb54bd2e5fc828daec2c83e"), looks := false }, kinds := [], alts := [], laidByText := true, laidKinds := [.data, .data, .data, .data, .sentinel, .pinned], laidTests := true, laidLooks := .later }
def MultiSweepsCardSaid : Prop := Claim7.holds Tryz.pinned (.plain (OpenSpec.ofChange multiSweepsSpec)) multiSweepsCard

/-- THE TIED CARD OF 'althinglaw08.MultiPuts'. -/
def multiPutsCard : Claim7 := { stood := { row := multiPutsRow, standIns := [], harness := (true, "0795d736229012fdcd1938897e17abbc5ba3a3355eb54bd2e5fc828daec2c83e"), looks := false }, kinds := [], alts := [], laidByText := true, laidKinds := [.data, .data, .data, .data, .sentinel, .pinned], laidTests := true, laidLooks := .later }
def MultiPutsCardSaid : Prop := Claim7.holds Tryz.pinned (.plain (OpenSpec.ofChange multiPutsSpec)) multiPutsCard

/-- THE SECOND FORM's CARD OF 'althinglaw07.ZtreeShape'. -/
def ztreeShapeUptoCard : Claim7 := { stood := { row := ztreeShapeUptoRow, standIns := [], harness := (true, "0795d736229012fdcd1938897e17abbc5ba3a3355eb54bd2e5fc828daec2c83e"), looks := false }, kinds := [], alts := [], laidByText := true, laidKinds := [.data, .data, .data, .data, .pinned], laidTests := true, laidLooks := .later }
def ZtreeShapeUptoCardSaid : Prop := Claim7.holds Tryz.pinned (.plain (OpenSpec.upto ztreeShapeSpec)) ztreeShapeUptoCard

/-- THE SECOND FORM's CARD OF 'althinglaw07.ZtreeStill'. -/
def ztreeStillUptoCard : Claim7 := { stood := { row := ztreeStillUptoRow, standIns := [], harness := (true, "0795d736229012fdcd1938897e17abbc5ba3a3355eb54bd2e5fc828daec2c83e"), looks := false }, kinds := [], alts := [], laidByText := true, laidKinds := [.data, .data, .data, .data, .sentinel, .pinned], laidTests := true, laidLooks := .later }
def ZtreeStillUptoCardSaid : Prop := Claim7.holds Tryz.pinned (.plain (OpenSpec.upto ztreeStillSpec)) ztreeStillUptoCard

/-- THE SECOND FORM's CARD OF 'althinglaw07.ZtreeBack'. -/
def ztreeBackUptoCard : Claim7 := { stood := { row := ztreeBackUptoRow, standIns := [], harness := (true, "0795d736229012fdcd1938897e17abbc5ba3a3355eb54bd2e5fc828daec2c83e"), looks := false }, kinds := [], alts := [], laidByText := true, laidKinds := [.data, .data, .data, .data, .sentinel, .pinned], laidTests := true, laidLooks := .later }
def ZtreeBackUptoCardSaid : Prop := Claim7.holds Tryz.pinned (.plain (OpenSpec.upto ztreeBackSpec)) ztreeBackUptoCard

/-- THE SECOND FORM's CARD OF 'althinglaw07.ZtreeDecodes'. -/
def ztreeDecodesUptoCard : Claim7 := { stood := { row := ztreeDecodesUptoRow, standIns := [], harness := (true, "0795d736229012fdcd1938897e17abbc5ba3a3355eb54bd2e5fc828daec2c83e"), looks := false }, kinds := [], alts := [], laidByText := true, laidKinds := [.data, .data, .data, .data, .sentinel, .pinned], laidTests := true, laidLooks := .later }
def ZtreeDecodesUptoCardSaid : Prop := Claim7.holds Tryz.pinned (.plain (OpenSpec.upto ztreeDecodesSpec)) ztreeDecodesUptoCard

/-- THE SECOND FORM's CARD OF 'althinglaw07.ZtreePlays'. -/
def ztreePlaysUptoCard : Claim7 := { stood := { row := ztreePlaysUptoRow, standIns := [], harness := (true, "0795d736229012fdcd1938897e17abbc5ba3a3355eb54bd2e5fc828daec2c83e"), looks := false }, kinds := [], alts := [], laidByText := true, laidKinds := [.data, .data, .data, .data, .sentinel, .pinned], laidTests := true, laidLooks := .later }
def ZtreePlaysUptoCardSaid : Prop := Claim7.holds Tryz.pinned (.plain (OpenSpec.upto ztreePlaysSpec)) ztreePlaysUptoCard

/-- THE SECOND FORM's CARD OF 'althinglaw08.MultiWhole'. -/
def multiWholeUptoCard : Claim7 := { stood := { row := multiWholeUptoRow, standIns := [], harness := (true, "0795d736229012fdcd1938897e17abbc5ba3a3355eb54bd2e5fc828daec2c83e"), looks := false }, kinds := [], alts := [], laidByText := true, laidKinds := [.data, .data, .data, .data, .sentinel, .pinned], laidTests := true, laidLooks := .later }
def MultiWholeUptoCardSaid : Prop := Claim7.holds Tryz.pinned (.plain (OpenSpec.upto multiWholeSpec)) multiWholeUptoCard

/-- THE SECOND FORM's CARD OF 'althinglaw08.MultiBounds'. -/
def multiBoundsUptoCard : Claim7 := { stood := { row := multiBoundsUptoRow, standIns := [], harness := (true, "0795d736229012fdcd1938897e17abbc5ba3a3355eb54bd2e5fc828daec2c83e"), looks := false }, kinds := [], alts := [], laidByText := true, laidKinds := [.data, .data, .data, .data, .sentinel, .pinned], laidTests := true, laidLooks := .later }
def MultiBoundsUptoCardSaid : Prop := Claim7.holds Tryz.pinned (.plain (OpenSpec.upto multiBoundsSpec)) multiBoundsUptoCard

/-- THE SECOND FORM's CARD OF 'althinglaw08.MultiApart'. -/
def multiApartUptoCard : Claim7 := { stood := { row := multiApartUptoRow, standIns := [], harness := (true, "0795d736229012fdcd1938897e17abbc5ba3a3355eb54bd2e5fc828daec2c83e"), looks := false }, kinds := [], alts := [], laidByText := true, laidKinds := [.data, .data, .data, .data, .sentinel, .pinned], laidTests := true, laidLooks := .later }
def MultiApartUptoCardSaid : Prop := Claim7.holds Tryz.pinned (.plain (OpenSpec.upto multiApartSpec)) multiApartUptoCard

/-- THE SECOND FORM's CARD OF 'althinglaw08.MultiPlays'. -/
def multiPlaysUptoCard : Claim7 := { stood := { row := multiPlaysUptoRow, standIns := [], harness := (true, "0795d736229012fdcd1938897e17abbc5ba3a3355eb54bd2e5fc828daec2c83e"), looks := false }, kinds := [], alts := [], laidByText := true, laidKinds := [.data, .data, .data, .data, .sentinel, .pinned], laidTests := true, laidLooks := .later }
def MultiPlaysUptoCardSaid : Prop := Claim7.holds Tryz.pinned (.plain (OpenSpec.upto multiPlaysSpec)) multiPlaysUptoCard

/-- THE SECOND FORM's CARD OF 'althinglaw08.MultiSweeps'. -/
def multiSweepsUptoCard : Claim7 := { stood := { row := multiSweepsUptoRow, standIns := [], harness := (true, "0795d736229012fdcd1938897e17abbc5ba3a3355eb54bd2e5fc828daec2c83e"), looks := false }, kinds := [], alts := [], laidByText := true, laidKinds := [.data, .data, .data, .data, .sentinel, .pinned], laidTests := true, laidLooks := .later }
def MultiSweepsUptoCardSaid : Prop := Claim7.holds Tryz.pinned (.plain (OpenSpec.upto multiSweepsSpec)) multiSweepsUptoCard

/-- THE SECOND FORM's CARD OF 'althinglaw08.MultiPuts'. -/
def multiPutsUptoCard : Claim7 := { stood := { row := multiPutsUptoRow, standIns := [], harness := (true, "0795d736229012fdcd1938897e17abbc5ba3a3355eb54bd2e5fc828daec2c83e"), looks := false }, kinds := [], alts := [], laidByText := true, laidKinds := [.data, .data, .data, .data, .sentinel, .pinned], laidTests := true, laidLooks := .later }
def MultiPutsUptoCardSaid : Prop := Claim7.holds Tryz.pinned (.plain (OpenSpec.upto multiPutsSpec)) multiPutsUptoCard
end Rows
end Go.Proofs.YthfpmipeejjogaaGreatDoor
