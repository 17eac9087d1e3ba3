/-
  DERIVED. GIVEN WITH THE SEED: THE CARDS: each row of YtomdigihapdhnaaGreatDoorRows.lean that lists a variable, with what it lists TIED to the program's text (the seventh form; the later family's looks); each row that meets fmt, with fmt's text TOLD by the authors' own Lean function (tested against real Go, not proved from fmt's source: count such statements apart). THE CARD IS WHAT COUNTS. Prove the row's statement (the work); the ties are given (YtomdigihapdhnaaGreatDoorTie.lean); close each card by the builder's one call (the guide's Derived/Test/ToyasCard.lean, 'card_holds'). Laid BY PROGRAM, IN A SANDBOX (cutbox-door.mjs). By AI agents, Wed Nov 11 2026. No macro, syntax, notation, axiom, sorry.
-/
import Derived.Test.YtomdigihapdhnaaGreatDoorRows
import GoSem.ClaimSeven
namespace Go.Proofs.YtomdigihapdhnaaGreatDoor
namespace Rows

/-- THE TIED CARD OF 'althinglaw17.StoreReplies'. -/
def storeRepliesCard : Claim7 := { stood := { row := storeRepliesRow, standIns := [], harness := (true, "49eed35f75761d902e5bd58df56efda49f97cffcfa98a6c6e8fddb4c184c610c"), looks := true }, kinds := [], alts := [], laidByText := true, laidKinds := [.data, .data, .data, .data, .sentinel, .pinned], laidTests := true, laidLooks := .later }
def StoreRepliesCardSaid : Prop := Claim7.holds Tryz.pinned (.plain (OpenSpec.ofChange storeRepliesSpec)) storeRepliesCard

/-- THE TIED CARD OF 'althinglaw17.StoreApart'. -/
def storeApartCard : Claim7 := { stood := { row := storeApartRow, standIns := [], harness := (true, "49eed35f75761d902e5bd58df56efda49f97cffcfa98a6c6e8fddb4c184c610c"), looks := true }, kinds := [], alts := [], laidByText := true, laidKinds := [.data, .data, .data, .data, .sentinel, .pinned], laidTests := true, laidLooks := .later }
def StoreApartCardSaid : Prop := Claim7.holds Tryz.pinned (.plain (OpenSpec.ofChange storeApartSpec)) storeApartCard

/-- THE TIED CARD OF 'althinglaw17.StoreQuota'. -/
def storeQuotaCard : Claim7 := { stood := { row := storeQuotaRow, standIns := [], harness := (true, "49eed35f75761d902e5bd58df56efda49f97cffcfa98a6c6e8fddb4c184c610c"), looks := true }, kinds := [], alts := [], laidByText := true, laidKinds := [.data, .data, .data, .data, .sentinel, .pinned], laidTests := true, laidLooks := .later }
def StoreQuotaCardSaid : Prop := Claim7.holds Tryz.pinned (.plain (OpenSpec.ofChange storeQuotaSpec)) storeQuotaCard

/-- THE TIED CARD OF 'althinglaw17.StoreSwaps'. -/
def storeSwapsCard : Claim7 := { stood := { row := storeSwapsRow, standIns := [], harness := (true, "49eed35f75761d902e5bd58df56efda49f97cffcfa98a6c6e8fddb4c184c610c"), looks := true }, kinds := [], alts := [], laidByText := true, laidKinds := [.data, .data, .data, .data, .sentinel, .pinned], laidTests := true, laidLooks := .later }
def StoreSwapsCardSaid : Prop := Claim7.holds Tryz.pinned (.plain (OpenSpec.ofChange storeSwapsSpec)) storeSwapsCard

/-- THE TIED CARD OF 'althinglaw17.StoreEphemeral'. -/
def storeEphemeralCard : Claim7 := { stood := { row := storeEphemeralRow, standIns := [], harness := (true, "49eed35f75761d902e5bd58df56efda49f97cffcfa98a6c6e8fddb4c184c610c"), looks := true }, kinds := [], alts := [], laidByText := true, laidKinds := [.data, .data, .data, .data, .sentinel, .pinned], laidTests := true, laidLooks := .later }
def StoreEphemeralCardSaid : Prop := Claim7.holds Tryz.pinned (.plain (OpenSpec.ofChange storeEphemeralSpec)) storeEphemeralCard

/-- THE TIED CARD OF 'althinglaw17.StoreCalls'. -/
def storeCallsCard : Claim7 := { stood := { row := storeCallsRow, standIns := [], harness := (true, "49eed35f75761d902e5bd58df56efda49f97cffcfa98a6c6e8fddb4c184c610c"), looks := true }, kinds := [], alts := [], laidByText := true, laidKinds := [.data, .data, .data, .data, .sentinel, .pinned], laidTests := true, laidLooks := .later }
def StoreCallsCardSaid : Prop := Claim7.holds Tryz.pinned (.plain (OpenSpec.ofChange storeCallsSpec)) storeCallsCard

/-- THE TIED CARD OF 'althinglaw23.JudgeRaw'. -/
def judgeRawCard : Claim7 := { stood := { row := judgeRawRow, standIns := [], harness := (true, "49eed35f75761d902e5bd58df56efda49f97cffcfa98a6c6e8fddb4c184c610c"), looks := true }, kinds := [], alts := [], laidByText := true, laidKinds := [.data, .data, .data, .data, .sentinel, .pinned], laidTests := true, laidLooks := .later }
def JudgeRawCardSaid : Prop := Claim7.holds Tryz.pinned (.plain (OpenSpec.ofChange judgeRawSpec)) judgeRawCard

/-- THE TIED CARD OF 'althinglaw17.StoreOnce'. -/
def storeOnceCard : Claim7 := { stood := { row := storeOnceRow, standIns := [], harness := (true, "49eed35f75761d902e5bd58df56efda49f97cffcfa98a6c6e8fddb4c184c610c"), looks := true }, kinds := [], alts := [], laidByText := true, laidKinds := [.data, .data, .data, .data, .sentinel, .pinned], laidTests := true, laidLooks := .later }
def StoreOnceCardSaid : Prop := Claim7.holds Tryz.pinned (.plain (OpenSpec.ofChange storeOnceSpec)) storeOnceCard

/-- THE TIED CARD OF 'althinglaw17.StoreDecodes'. -/
def storeDecodesCard : Claim7 := { stood := { row := storeDecodesRow, standIns := [], harness := (true, "49eed35f75761d902e5bd58df56efda49f97cffcfa98a6c6e8fddb4c184c610c"), looks := true }, kinds := [], alts := [], laidByText := true, laidKinds := [.data, .data, .data, .data, .sentinel, .pinned], laidTests := true, laidLooks := .later }
def StoreDecodesCardSaid : Prop := Claim7.holds Tryz.pinned (.plain (OpenSpec.ofChange storeDecodesSpec)) storeDecodesCard

/-- THE SECOND FORM's CARD OF 'althinglaw17.StoreReplies'. -/
def storeRepliesUptoCard : Claim7 := { stood := { row := storeRepliesUptoRow, standIns := [], harness := (true, "49eed35f75761d902e5bd58df56efda49f97cffcfa98a6c6e8fddb4c184c610c"), looks := true }, kinds := [], alts := [], laidByText := true, laidKinds := [.data, .data, .data, .data, .sentinel, .pinned], laidTests := true, laidLooks := .later }
def StoreRepliesUptoCardSaid : Prop := Claim7.holds Tryz.pinned (.plain (OpenSpec.upto storeRepliesSpec)) storeRepliesUptoCard

/-- THE SECOND FORM's CARD OF 'althinglaw17.StoreApart'. -/
def storeApartUptoCard : Claim7 := { stood := { row := storeApartUptoRow, standIns := [], harness := (true, "49eed35f75761d902e5bd58df56efda49f97cffcfa98a6c6e8fddb4c184c610c"), looks := true }, kinds := [], alts := [], laidByText := true, laidKinds := [.data, .data, .data, .data, .sentinel, .pinned], laidTests := true, laidLooks := .later }
def StoreApartUptoCardSaid : Prop := Claim7.holds Tryz.pinned (.plain (OpenSpec.upto storeApartSpec)) storeApartUptoCard

/-- THE SECOND FORM's CARD OF 'althinglaw17.StoreQuota'. -/
def storeQuotaUptoCard : Claim7 := { stood := { row := storeQuotaUptoRow, standIns := [], harness := (true, "49eed35f75761d902e5bd58df56efda49f97cffcfa98a6c6e8fddb4c184c610c"), looks := true }, kinds := [], alts := [], laidByText := true, laidKinds := [.data, .data, .data, .data, .sentinel, .pinned], laidTests := true, laidLooks := .later }
def StoreQuotaUptoCardSaid : Prop := Claim7.holds Tryz.pinned (.plain (OpenSpec.upto storeQuotaSpec)) storeQuotaUptoCard

/-- THE SECOND FORM's CARD OF 'althinglaw17.StoreSwaps'. -/
def storeSwapsUptoCard : Claim7 := { stood := { row := storeSwapsUptoRow, standIns := [], harness := (true, "49eed35f75761d902e5bd58df56efda49f97cffcfa98a6c6e8fddb4c184c610c"), looks := true }, kinds := [], alts := [], laidByText := true, laidKinds := [.data, .data, .data, .data, .sentinel, .pinned], laidTests := true, laidLooks := .later }
def StoreSwapsUptoCardSaid : Prop := Claim7.holds Tryz.pinned (.plain (OpenSpec.upto storeSwapsSpec)) storeSwapsUptoCard

/-- THE SECOND FORM's CARD OF 'althinglaw17.StoreEphemeral'. -/
def storeEphemeralUptoCard : Claim7 := { stood := { row := storeEphemeralUptoRow, standIns := [], harness := (true, "49eed35f75761d902e5bd58df56efda49f97cffcfa98a6c6e8fddb4c184c610c"), looks := true }, kinds := [], alts := [], laidByText := true, laidKinds := [.data, .data, .data, .data, .sentinel, .pinned], laidTests := true, laidLooks := .later }
def StoreEphemeralUptoCardSaid : Prop := Claim7.holds Tryz.pinned (.plain (OpenSpec.upto storeEphemeralSpec)) storeEphemeralUptoCard

/-- THE SECOND FORM's CARD OF 'althinglaw17.StoreCalls'. -/
def storeCallsUptoCard : Claim7 := { stood := { row := storeCallsUptoRow, standIns := [], harness := (true, "49eed35f75761d902e5bd58df56efda49f97cffcfa98a6c6e8fddb4c184c610c"), looks := true }, kinds := [], alts := [], laidByText := true, laidKinds := [.data, .data, .data, .data, .sentinel, .pinned], laidTests := true, laidLooks := .later }
def StoreCallsUptoCardSaid : Prop := Claim7.holds Tryz.pinned (.plain (OpenSpec.upto storeCallsSpec)) storeCallsUptoCard

/-- THE SECOND FORM's CARD OF 'althinglaw23.JudgeRaw'. -/
def judgeRawUptoCard : Claim7 := { stood := { row := judgeRawUptoRow, standIns := [], harness := (true, "49eed35f75761d902e5bd58df56efda49f97cffcfa98a6c6e8fddb4c184c610c"), looks := true }, kinds := [], alts := [], laidByText := true, laidKinds := [.data, .data, .data, .data, .sentinel, .pinned], laidTests := true, laidLooks := .later }
def JudgeRawUptoCardSaid : Prop := Claim7.holds Tryz.pinned (.plain (OpenSpec.upto judgeRawSpec)) judgeRawUptoCard

/-- THE SECOND FORM's CARD OF 'althinglaw17.StoreOnce'. -/
def storeOnceUptoCard : Claim7 := { stood := { row := storeOnceUptoRow, standIns := [], harness := (true, "49eed35f75761d902e5bd58df56efda49f97cffcfa98a6c6e8fddb4c184c610c"), looks := true }, kinds := [], alts := [], laidByText := true, laidKinds := [.data, .data, .data, .data, .sentinel, .pinned], laidTests := true, laidLooks := .later }
def StoreOnceUptoCardSaid : Prop := Claim7.holds Tryz.pinned (.plain (OpenSpec.upto storeOnceSpec)) storeOnceUptoCard

/-- THE SECOND FORM's CARD OF 'althinglaw17.StoreDecodes'. -/
def storeDecodesUptoCard : Claim7 := { stood := { row := storeDecodesUptoRow, standIns := [], harness := (true, "49eed35f75761d902e5bd58df56efda49f97cffcfa98a6c6e8fddb4c184c610c"), looks := true }, kinds := [], alts := [], laidByText := true, laidKinds := [.data, .data, .data, .data, .sentinel, .pinned], laidTests := true, laidLooks := .later }
def StoreDecodesUptoCardSaid : Prop := Claim7.holds Tryz.pinned (.plain (OpenSpec.upto storeDecodesSpec)) storeDecodesUptoCard
end Rows
end Go.Proofs.YtomdigihapdhnaaGreatDoor
