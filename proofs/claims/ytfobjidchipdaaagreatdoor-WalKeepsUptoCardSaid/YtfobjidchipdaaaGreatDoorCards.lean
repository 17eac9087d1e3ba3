/-
  DERIVED. GIVEN WITH THE SEED: THE CARDS: each row of YtfobjidchipdaaaGreatDoorRows.lean that lists a variable, with what it lists TIED to the program's text (the seventh form; the later family's looks); each row that meets fmt, with fmt's text TOLD by the authors' own Lean function (tested against real Go, not proved from fmt's source: count such statements apart). THE CARD IS WHAT COUNTS. Prove the row's statement (the work); the ties are given (YtfobjidchipdaaaGreatDoorTie.lean); close each card by the builder's one call (the guide's Derived/Test/ToyasCard.lean, 'card_holds'). Laid BY PROGRAM, IN A SANDBOX (cutbox-door.mjs). By AI agents, Wed Nov 11 2026. No macro, syntax, notation, axiom, sorry.
-/
import Derived.Test.YtfobjidchipdaaaGreatDoorRows
import GoSem.ClaimSeven
namespace Go.Proofs.YtfobjidchipdaaaGreatDoor
namespace Rows

/-- THE TIED CARD OF 'althinglaw05.SnapKeeps'. -/
def snapKeepsCard : Claim7 := { stood := { row := snapKeepsRow, standIns := [], harness := (true, "0b6ed476258cfae761cb51e7b5ba6357136c1bc4836148a81dc250e68601b9af"), looks := true }, kinds := [], alts := [], laidByText := true, laidKinds := [.data, .data, .data, .data, .sentinel, .sentinel, .pinned], laidTests := true, laidLooks := .later }
def SnapKeepsCardSaid : Prop := Claim7.holds Tryz.pinned (.plain (OpenSpec.ofChange snapKeepsSpec)) snapKeepsCard

/-- THE TIED CARD OF 'althinglaw05.SnapChunks'. -/
def snapChunksCard : Claim7 := { stood := { row := snapChunksRow, standIns := [], harness := (true, "0b6ed476258cfae761cb51e7b5ba6357136c1bc4836148a81dc250e68601b9af"), looks := true }, kinds := [], alts := [], laidByText := true, laidKinds := [.data, .data, .data, .data, .sentinel, .sentinel, .sentinel, .pinned], laidTests := true, laidLooks := .later }
def SnapChunksCardSaid : Prop := Claim7.holds Tryz.pinned (.plain (OpenSpec.ofChange snapChunksSpec)) snapChunksCard

/-- THE TIED CARD OF 'althinglaw05.SnapBack'. -/
def snapBackCard : Claim7 := { stood := { row := snapBackRow, standIns := [], harness := (true, "0b6ed476258cfae761cb51e7b5ba6357136c1bc4836148a81dc250e68601b9af"), looks := true }, kinds := [], alts := [], laidByText := true, laidKinds := [.data, .data, .data, .data, .sentinel, .sentinel, .sentinel, .pinned], laidTests := true, laidLooks := .later }
def SnapBackCardSaid : Prop := Claim7.holds Tryz.pinned (.plain (OpenSpec.ofChange snapBackSpec)) snapBackCard

/-- THE TIED CARD OF 'althinglaw04.WalRoom'. -/
def walRoomCard : Claim7 := { stood := { row := walRoomRow, standIns := [], harness := (true, "0b6ed476258cfae761cb51e7b5ba6357136c1bc4836148a81dc250e68601b9af"), looks := true }, kinds := [], alts := [], laidByText := true, laidKinds := [.data, .data, .data, .data, .sentinel, .sentinel, .pinned], laidTests := true, laidLooks := .later }
def WalRoomCardSaid : Prop := Claim7.holds Tryz.pinned (.plain (OpenSpec.ofChange walRoomSpec)) walRoomCard

/-- THE TIED CARD OF 'althinglaw04.WalKeeps'. -/
def walKeepsCard : Claim7 := { stood := { row := walKeepsRow, standIns := [], harness := (true, "0b6ed476258cfae761cb51e7b5ba6357136c1bc4836148a81dc250e68601b9af"), looks := true }, kinds := [], alts := [], laidByText := true, laidKinds := [.data, .data, .data, .data, .sentinel, .sentinel, .pinned], laidTests := true, laidLooks := .later }
def WalKeepsCardSaid : Prop := Claim7.holds Tryz.pinned (.plain (OpenSpec.ofChange walKeepsSpec)) walKeepsCard

/-- THE TIED CARD OF 'althinglaw04.WalCuts'. -/
def walCutsCard : Claim7 := { stood := { row := walCutsRow, standIns := [], harness := (true, "0b6ed476258cfae761cb51e7b5ba6357136c1bc4836148a81dc250e68601b9af"), looks := true }, kinds := [], alts := [], laidByText := true, laidKinds := [.data, .data, .data, .data, .sentinel, .sentinel, .pinned], laidTests := true, laidLooks := .later }
def WalCutsCardSaid : Prop := Claim7.holds Tryz.pinned (.plain (OpenSpec.ofChange walCutsSpec)) walCutsCard

/-- THE SECOND FORM's CARD OF 'althinglaw05.SnapKeeps'. -/
def snapKeepsUptoCard : Claim7 := { stood := { row := snapKeepsUptoRow, standIns := [], harness := (true, "0b6ed476258cfae761cb51e7b5ba6357136c1bc4836148a81dc250e68601b9af"), looks := true }, kinds := [], alts := [], laidByText := true, laidKinds := [.data, .data, .data, .data, .sentinel, .sentinel, .pinned], laidTests := true, laidLooks := .later }
def SnapKeepsUptoCardSaid : Prop := Claim7.holds Tryz.pinned (.plain (OpenSpec.upto snapKeepsSpec)) snapKeepsUptoCard

/-- THE SECOND FORM's CARD OF 'althinglaw05.SnapChunks'. -/
def snapChunksUptoCard : Claim7 := { stood := { row := snapChunksUptoRow, standIns := [], harness := (true, "0b6ed476258cfae761cb51e7b5ba6357136c1bc4836148a81dc250e68601b9af"), looks := true }, kinds := [], alts := [], laidByText := true, laidKinds := [.data, .data, .data, .data, .sentinel, .sentinel, .sentinel, .pinned], laidTests := true, laidLooks := .later }
def SnapChunksUptoCardSaid : Prop := Claim7.holds Tryz.pinned (.plain (OpenSpec.upto snapChunksSpec)) snapChunksUptoCard

/-- THE SECOND FORM's CARD OF 'althinglaw05.SnapBack'. -/
def snapBackUptoCard : Claim7 := { stood := { row := snapBackUptoRow, standIns := [], harness := (true, "0b6ed476258cfae761cb51e7b5ba6357136c1bc4836148a81dc250e68601b9af"), looks := true }, kinds := [], alts := [], laidByText := true, laidKinds := [.data, .data, .data, .data, .sentinel, .sentinel, .sentinel, .pinned], laidTests := true, laidLooks := .later }
def SnapBackUptoCardSaid : Prop := Claim7.holds Tryz.pinned (.plain (OpenSpec.upto snapBackSpec)) snapBackUptoCard

/-- THE SECOND FORM's CARD OF 'althinglaw04.WalRoom'. -/
def walRoomUptoCard : Claim7 := { stood := { row := walRoomUptoRow, standIns := [], harness := (true, "0b6ed476258cfae761cb51e7b5ba6357136c1bc4836148a81dc250e68601b9af"), looks := true }, kinds := [], alts := [], laidByText := true, laidKinds := [.data, .data, .data, .data, .sentinel, .sentinel, .pinned], laidTests := true, laidLooks := .later }
def WalRoomUptoCardSaid : Prop := Claim7.holds Tryz.pinned (.plain (OpenSpec.upto walRoomSpec)) walRoomUptoCard

/-- THE SECOND FORM's CARD OF 'althinglaw04.WalKeeps'. -/
def walKeepsUptoCard : Claim7 := { stood := { row := walKeepsUptoRow, standIns := [], harness := (true, "0b6ed476258cfae761cb51e7b5ba6357136c1bc4836148a81dc250e68601b9af"), looks := true }, kinds := [], alts := [], laidByText := true, laidKinds := [.data, .data, .data, .data, .sentinel, .sentinel, .pinned], laidTests := true, laidLooks := .later }
def WalKeepsUptoCardSaid : Prop := Claim7.holds Tryz.pinned (.plain (OpenSpec.upto walKeepsSpec)) walKeepsUptoCard

/-- THE SECOND FORM's CARD OF 'althinglaw04.WalCuts'. -/
def walCutsUptoCard : Claim7 := { stood := { row := walCutsUptoRow, standIns := [], harness := (true, "0b6ed476258cfae761cb51e7b5ba6357136c1bc4836148a81dc250e68601b9af"), looks := true }, kinds := [], alts := [], laidByText := true, laidKinds := [.data, .data, .data, .data, .sentinel, .sentinel, .pinned], laidTests := true, laidLooks := .later }
def WalCutsUptoCardSaid : Prop := Claim7.holds Tryz.pinned (.plain (OpenSpec.upto walCutsSpec)) walCutsUptoCard
end Rows
end Go.Proofs.YtfobjidchipdaaaGreatDoor
