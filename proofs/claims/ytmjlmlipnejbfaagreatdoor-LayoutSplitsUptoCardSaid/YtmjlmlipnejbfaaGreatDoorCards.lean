/-
  DERIVED. GIVEN WITH THE SEED: THE CARDS: each row of YtmjlmlipnejbfaaGreatDoorRows.lean that lists a variable, with what it lists TIED to the program's text (the seventh form; the later family's looks); each row that meets fmt, with fmt's text TOLD by the authors' own Lean function (tested against real Go, not proved from fmt's source: count such statements apart). THE CARD IS WHAT COUNTS. Prove the row's statement (the work); the ties are given (YtmjlmlipnejbfaaGreatDoorTie.lean); close each card by the builder's one call (the guide's Derived/Test/ToyasCard.lean, 'card_holds'). Laid BY PROGRAM, IN A SANDBOX (cutbox-door.mjs). By AI agents, Wed Nov 11 2026. No macro, syntax, notation, axiom, sorry.
-/
import Derived.Test.YtmjlmlipnejbfaaGreatDoorRows
import GoSem.ClaimSeven
namespace Go.Proofs.YtmjlmlipnejbfaaGreatDoor
namespace Rows

/-- THE TIED CARD OF 'casementlaw10.LayoutSplits'. -/
def layoutSplitsCard : Claim7 := { stood := { row := layoutSplitsRow, standIns := [], harness := (true, "8926e4761d94fab5c27fe8df9ecec77f3a1e7a788c6af998782bbadfa13a049a"), looks := true }, kinds := [], alts := [], laidByText := true, laidKinds := [.data, .data, .data, .sentinel, .sentinel], laidTests := true, laidLooks := .later }
def LayoutSplitsCardSaid : Prop := Claim7.holds Tryz.pinned (.plain (OpenSpec.ofChange layoutSplitsSpec)) layoutSplitsCard

/-- THE TIED CARD OF 'casementlaw10.LayoutMoves'. -/
def layoutMovesCard : Claim7 := { stood := { row := layoutMovesRow, standIns := [], harness := (true, "8926e4761d94fab5c27fe8df9ecec77f3a1e7a788c6af998782bbadfa13a049a"), looks := true }, kinds := [], alts := [], laidByText := true, laidKinds := [.data, .data, .data, .sentinel, .sentinel], laidTests := true, laidLooks := .later }
def LayoutMovesCardSaid : Prop := Claim7.holds Tryz.pinned (.plain (OpenSpec.ofChange layoutMovesSpec)) layoutMovesCard

/-- THE TIED CARD OF 'casementlaw10.LayoutCovers'. -/
def layoutCoversCard : Claim7 := { stood := { row := layoutCoversRow, standIns := [], harness := (true, "8926e4761d94fab5c27fe8df9ecec77f3a1e7a788c6af998782bbadfa13a049a"), looks := true }, kinds := [], alts := [], laidByText := true, laidKinds := [.data, .data, .data, .sentinel, .sentinel], laidTests := true, laidLooks := .later }
def LayoutCoversCardSaid : Prop := Claim7.holds Tryz.pinned (.plain (OpenSpec.ofChange layoutCoversSpec)) layoutCoversCard

/-- THE SECOND FORM's CARD OF 'casementlaw10.LayoutSplits'. -/
def layoutSplitsUptoCard : Claim7 := { stood := { row := layoutSplitsUptoRow, standIns := [], harness := (true, "8926e4761d94fab5c27fe8df9ecec77f3a1e7a788c6af998782bbadfa13a049a"), looks := true }, kinds := [], alts := [], laidByText := true, laidKinds := [.data, .data, .data, .sentinel, .sentinel], laidTests := true, laidLooks := .later }
def LayoutSplitsUptoCardSaid : Prop := Claim7.holds Tryz.pinned (.plain (OpenSpec.upto layoutSplitsSpec)) layoutSplitsUptoCard

/-- THE SECOND FORM's CARD OF 'casementlaw10.LayoutMoves'. -/
def layoutMovesUptoCard : Claim7 := { stood := { row := layoutMovesUptoRow, standIns := [], harness := (true, "8926e4761d94fab5c27fe8df9ecec77f3a1e7a788c6af998782bbadfa13a049a"), looks := true }, kinds := [], alts := [], laidByText := true, laidKinds := [.data, .data, .data, .sentinel, .sentinel], laidTests := true, laidLooks := .later }
def LayoutMovesUptoCardSaid : Prop := Claim7.holds Tryz.pinned (.plain (OpenSpec.upto layoutMovesSpec)) layoutMovesUptoCard

/-- THE SECOND FORM's CARD OF 'casementlaw10.LayoutCovers'. -/
def layoutCoversUptoCard : Claim7 := { stood := { row := layoutCoversUptoRow, standIns := [], harness := (true, "8926e4761d94fab5c27fe8df9ecec77f3a1e7a788c6af998782bbadfa13a049a"), looks := true }, kinds := [], alts := [], laidByText := true, laidKinds := [.data, .data, .data, .sentinel, .sentinel], laidTests := true, laidLooks := .later }
def LayoutCoversUptoCardSaid : Prop := Claim7.holds Tryz.pinned (.plain (OpenSpec.upto layoutCoversSpec)) layoutCoversUptoCard
end Rows
end Go.Proofs.YtmjlmlipnejbfaaGreatDoor
