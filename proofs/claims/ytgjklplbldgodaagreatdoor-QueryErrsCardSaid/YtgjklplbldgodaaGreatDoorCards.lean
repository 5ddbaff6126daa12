/-
  DERIVED. GIVEN WITH THE SEED: THE CARDS: each row of YtgjklplbldgodaaGreatDoorRows.lean that lists a variable, with what it lists TIED to the program's text (the seventh form; the later family's looks); each row that meets fmt, with fmt's text TOLD by the authors' own Lean function (tested against real Go, not proved from fmt's source: count such statements apart). THE CARD IS WHAT COUNTS. Prove the row's statement (the work); the ties are given (YtgjklplbldgodaaGreatDoorTie.lean); close each card by the builder's one call (the guide's Derived/Test/ToyasCard.lean, 'card_holds'). Laid BY PROGRAM, IN A SANDBOX (cutbox-door.mjs). By AI agents, Wed Nov 11 2026. No macro, syntax, notation, axiom, sorry.
-/
import Derived.Test.YtgjklplbldgodaaGreatDoorRows
import GoSem.ClaimSeven
namespace Go.Proofs.YtgjklplbldgodaaGreatDoor
namespace Rows

/-- THE TIED CARD OF 'hypercubelaw14.QueryAll'. -/
def queryAllCard : Claim7 := { stood := { row := queryAllRow, standIns := [], harness := (true, "fff3909a9e7155b773a0e023d63ec9f0b5a0d7a659a1f7b7b9e28862f99589c4"), looks := false }, kinds := [], alts := [], laidByText := true, laidKinds := [.data, .data, .data], laidTests := true, laidLooks := .later }
def QueryAllCardSaid : Prop := Claim7.holds Tryz.pinned (.plain (OpenSpec.ofChange queryAllSpec)) queryAllCard

/-- THE TIED CARD OF 'hypercubelaw14.QueryAlike'. -/
def queryAlikeCard : Claim7 := { stood := { row := queryAlikeRow, standIns := [], harness := (true, "fff3909a9e7155b773a0e023d63ec9f0b5a0d7a659a1f7b7b9e28862f99589c4"), looks := false }, kinds := [], alts := [], laidByText := true, laidKinds := [.data, .data, .data], laidTests := true, laidLooks := .later }
def QueryAlikeCardSaid : Prop := Claim7.holds Tryz.pinned (.plain (OpenSpec.ofChange queryAlikeSpec)) queryAlikeCard

/-- THE TIED CARD OF 'hypercubelaw14.QueryParts'. -/
def queryPartsCard : Claim7 := { stood := { row := queryPartsRow, standIns := [], harness := (true, "fff3909a9e7155b773a0e023d63ec9f0b5a0d7a659a1f7b7b9e28862f99589c4"), looks := false }, kinds := [], alts := [], laidByText := true, laidKinds := [.data, .data, .data], laidTests := true, laidLooks := .later }
def QueryPartsCardSaid : Prop := Claim7.holds Tryz.pinned (.plain (OpenSpec.ofChange queryPartsSpec)) queryPartsCard

/-- THE TIED CARD OF 'hypercubelaw14.QueryAllBy'. -/
def queryAllByCard : Claim7 := { stood := { row := queryAllByRow, standIns := [], harness := (true, "fff3909a9e7155b773a0e023d63ec9f0b5a0d7a659a1f7b7b9e28862f99589c4"), looks := false }, kinds := [], alts := [], laidByText := true, laidKinds := [.data, .data, .data], laidTests := true, laidLooks := .later }
def QueryAllByCardSaid : Prop := Claim7.holds Tryz.pinned (.plain (OpenSpec.ofChange queryAllBySpec)) queryAllByCard

/-- THE TIED CARD OF 'hypercubelaw14.QueryOrder'. -/
def queryOrderCard : Claim7 := { stood := { row := queryOrderRow, standIns := [], harness := (true, "fff3909a9e7155b773a0e023d63ec9f0b5a0d7a659a1f7b7b9e28862f99589c4"), looks := false }, kinds := [], alts := [], laidByText := true, laidKinds := [.data, .data, .data], laidTests := true, laidLooks := .later }
def QueryOrderCardSaid : Prop := Claim7.holds Tryz.pinned (.plain (OpenSpec.ofChange queryOrderSpec)) queryOrderCard

/-- THE TIED CARD OF 'hypercubelaw14.QueryOwn'. -/
def queryOwnCard : Claim7 := { stood := { row := queryOwnRow, standIns := [], harness := (true, "fff3909a9e7155b773a0e023d63ec9f0b5a0d7a659a1f7b7b9e28862f99589c4"), looks := false }, kinds := [], alts := [], laidByText := true, laidKinds := [.data, .data, .data], laidTests := true, laidLooks := .later }
def QueryOwnCardSaid : Prop := Claim7.holds Tryz.pinned (.plain (OpenSpec.ofChange queryOwnSpec)) queryOwnCard

/-- THE TIED CARD OF 'hypercubelaw14.QueryNarrow'. -/
def queryNarrowCard : Claim7 := { stood := { row := queryNarrowRow, standIns := [], harness := (true, "fff3909a9e7155b773a0e023d63ec9f0b5a0d7a659a1f7b7b9e28862f99589c4"), looks := false }, kinds := [], alts := [], laidByText := true, laidKinds := [.data, .data, .data], laidTests := true, laidLooks := .later }
def QueryNarrowCardSaid : Prop := Claim7.holds Tryz.pinned (.plain (OpenSpec.ofChange queryNarrowSpec)) queryNarrowCard

/-- THE TIED CARD OF 'hypercubelaw14.QueryNothing'. -/
def queryNothingCard : Claim7 := { stood := { row := queryNothingRow, standIns := [], harness := (true, "fff3909a9e7155b773a0e023d63ec9f0b5a0d7a659a1f7b7b9e28862f99589c4"), looks := false }, kinds := [], alts := [], laidByText := true, laidKinds := [.data, .data, .data], laidTests := true, laidLooks := .later }
def QueryNothingCardSaid : Prop := Claim7.holds Tryz.pinned (.plain (OpenSpec.ofChange queryNothingSpec)) queryNothingCard

/-- THE TIED CARD OF 'hypercubelaw14.QueryErrs'. -/
def queryErrsCard : Claim7 := { stood := { row := queryErrsRow, standIns := [], harness := (true, "fff3909a9e7155b773a0e023d63ec9f0b5a0d7a659a1f7b7b9e28862f99589c4"), looks := false }, kinds := [], alts := [], laidByText := true, laidKinds := [.data, .data, .data], laidTests := true, laidLooks := .later }
def QueryErrsCardSaid : Prop := Claim7.holds Tryz.pinned (.plain (OpenSpec.ofChange queryErrsSpec)) queryErrsCard

/-- THE SECOND FORM's CARD OF 'hypercubelaw14.QueryAll'. -/
def queryAllUptoCard : Claim7 := { stood := { row := queryAllUptoRow, standIns := [], harness := (true, "fff3909a9e7155b773a0e023d63ec9f0b5a0d7a659a1f7b7b9e28862f99589c4"), looks := false }, kinds := [], alts := [], laidByText := true, laidKinds := [.data, .data, .data], laidTests := true, laidLooks := .later }
def QueryAllUptoCardSaid : Prop := Claim7.holds Tryz.pinned (.plain (OpenSpec.upto queryAllSpec)) queryAllUptoCard

/-- THE SECOND FORM's CARD OF 'hypercubelaw14.QueryAlike'. -/
def queryAlikeUptoCard : Claim7 := { stood := { row := queryAlikeUptoRow, standIns := [], harness := (true, "fff3909a9e7155b773a0e023d63ec9f0b5a0d7a659a1f7b7b9e28862f99589c4"), looks := false }, kinds := [], alts := [], laidByText := true, laidKinds := [.data, .data, .data], laidTests := true, laidLooks := .later }
def QueryAlikeUptoCardSaid : Prop := Claim7.holds Tryz.pinned (.plain (OpenSpec.upto queryAlikeSpec)) queryAlikeUptoCard

/-- THE SECOND FORM's CARD OF 'hypercubelaw14.QueryParts'. -/
def queryPartsUptoCard : Claim7 := { stood := { row := queryPartsUptoRow, standIns := [], harness := (true, "fff3909a9e7155b773a0e023d63ec9f0b5a0d7a659a1f7b7b9e28862f99589c4"), looks := false }, kinds := [], alts := [], laidByText := true, laidKinds := [.data, .data, .data], laidTests := true, laidLooks := .later }
def QueryPartsUptoCardSaid : Prop := Claim7.holds Tryz.pinned (.plain (OpenSpec.upto queryPartsSpec)) queryPartsUptoCard

/-- THE SECOND FORM's CARD OF 'hypercubelaw14.QueryAllBy'. -/
def queryAllByUptoCard : Claim7 := { stood := { row := queryAllByUptoRow, standIns := [], harness := (true, "fff3909a9e7155b773a0e023d63ec9f0b5a0d7a659a1f7b7b9e28862f99589c4"), looks := false }, kinds := [], alts := [], laidByText := true, laidKinds := [.data, .data, .data], laidTests := true, laidLooks := .later }
def QueryAllByUptoCardSaid : Prop := Claim7.holds Tryz.pinned (.plain (OpenSpec.upto queryAllBySpec)) queryAllByUptoCard

/-- THE SECOND FORM's CARD OF 'hypercubelaw14.QueryOrder'. -/
def queryOrderUptoCard : Claim7 := { stood := { row := queryOrderUptoRow, standIns := [], harness := (true, "fff3909a9e7155b773a0e023d63ec9f0b5a0d7a659a1f7b7b9e28862f99589c4"), looks := false }, kinds := [], alts := [], laidByText := true, laidKinds := [.data, .data, .data], laidTests := true, laidLooks := .later }
def QueryOrderUptoCardSaid : Prop := Claim7.holds Tryz.pinned (.plain (OpenSpec.upto queryOrderSpec)) queryOrderUptoCard

/-- THE SECOND FORM's CARD OF 'hypercubelaw14.QueryOwn'. -/
def queryOwnUptoCard : Claim7 := { stood := { row := queryOwnUptoRow, standIns := [], harness := (true, "fff3909a9e7155b773a0e023d63ec9f0b5a0d7a659a1f7b7b9e28862f99589c4"), looks := false }, kinds := [], alts := [], laidByText := true, laidKinds := [.data, .data, .data], laidTests := true, laidLooks := .later }
def QueryOwnUptoCardSaid : Prop := Claim7.holds Tryz.pinned (.plain (OpenSpec.upto queryOwnSpec)) queryOwnUptoCard

/-- THE SECOND FORM's CARD OF 'hypercubelaw14.QueryNarrow'. -/
def queryNarrowUptoCard : Claim7 := { stood := { row := queryNarrowUptoRow, standIns := [], harness := (true, "fff3909a9e7155b773a0e023d63ec9f0b5a0d7a659a1f7b7b9e28862f99589c4"), looks := false }, kinds := [], alts := [], laidByText := true, laidKinds := [.data, .data, .data], laidTests := true, laidLooks := .later }
def QueryNarrowUptoCardSaid : Prop := Claim7.holds Tryz.pinned (.plain (OpenSpec.upto queryNarrowSpec)) queryNarrowUptoCard

/-- THE SECOND FORM's CARD OF 'hypercubelaw14.QueryNothing'. -/
def queryNothingUptoCard : Claim7 := { stood := { row := queryNothingUptoRow, standIns := [], harness := (true, "fff3909a9e7155b773a0e023d63ec9f0b5a0d7a659a1f7b7b9e28862f99589c4"), looks := false }, kinds := [], alts := [], laidByText := true, laidKinds := [.data, .data, .data], laidTests := true, laidLooks := .later }
def QueryNothingUptoCardSaid : Prop := Claim7.holds Tryz.pinned (.plain (OpenSpec.upto queryNothingSpec)) queryNothingUptoCard

/-- THE SECOND FORM's CARD OF 'hypercubelaw14.QueryErrs'. -/
def queryErrsUptoCard : Claim7 := { stood := { row := queryErrsUptoRow, standIns := [], harness := (true, "fff3909a9e7155b773a0e023d63ec9f0b5a0d7a659a1f7b7b9e28862f99589c4"), looks := false }, kinds := [], alts := [], laidByText := true, laidKinds := [.data, .data, .data], laidTests := true, laidLooks := .later }
def QueryErrsUptoCardSaid : Prop := Claim7.holds Tryz.pinned (.plain (OpenSpec.upto queryErrsSpec)) queryErrsUptoCard
end Rows
end Go.Proofs.YtgjklplbldgodaaGreatDoor
