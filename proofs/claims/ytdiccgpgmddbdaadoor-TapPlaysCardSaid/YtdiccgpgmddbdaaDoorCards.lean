/-
  DERIVED. GIVEN WITH THE SEED: THE CARDS: each row of YtdiccgpgmddbdaaDoorRows.lean that lists a variable, with what it lists TIED to the program's text (the seventh form; the later family's looks); each row that meets fmt, with fmt's text TOLD by the authors' own Lean function (tested against real Go, not proved from fmt's source: count such statements apart). THE CARD IS WHAT COUNTS. Prove the row's statement (the work); the ties are given (YtdiccgpgmddbdaaDoorTie.lean); close each card by the builder's one call (the guide's Derived/Test/ToyasCard.lean, 'card_holds'). Laid BY PROGRAM, IN A SANDBOX (cutbox-door.mjs). By AI agents, Wed Nov 11 2026. No macro, syntax, notation, axiom, sorry.
-/
import Derived.Test.YtdiccgpgmddbdaaDoorRows
import GoSem.ClaimSeven
namespace Go.Proofs.YtdiccgpgmddbdaaDoor
namespace Rows

/-- THE TIED CARD OF 'gantletlaw02.ShaSums'. -/
def shaSumsCard : Claim7 := { stood := { row := shaSumsRow, standIns := [], harness := (true, "bb17f959236ef13e09a56a860adaa3deb48b25f10b25f95b7e438f570f24f1d3"), looks := false }, kinds := [], alts := [], laidByText := true, laidKinds := [.data, .data], laidTests := true, laidLooks := .later }
def ShaSumsCardSaid : Prop := Claim7.holds Tryd.pinned (.plain (OpenSpec.ofChange shaSumsSpec)) shaSumsCard

/-- THE TIED CARD OF 'gantletlaw02.ShaParts'. -/
def shaPartsCard : Claim7 := { stood := { row := shaPartsRow, standIns := [], harness := (true, "bb17f959236ef13e09a56a860adaa3deb48b25f10b25f95b7e438f570f24f1d3"), looks := false }, kinds := [], alts := [], laidByText := true, laidKinds := [.data, .data], laidTests := true, laidLooks := .later }
def ShaPartsCardSaid : Prop := Claim7.holds Tryd.pinned (.plain (OpenSpec.ofChange shaPartsSpec)) shaPartsCard

/-- THE TIED CARD OF 'gantletlaw02.ShaCopies'. -/
def shaCopiesCard : Claim7 := { stood := { row := shaCopiesRow, standIns := [], harness := (true, "bb17f959236ef13e09a56a860adaa3deb48b25f10b25f95b7e438f570f24f1d3"), looks := false }, kinds := [], alts := [], laidByText := true, laidKinds := [.data, .data], laidTests := true, laidLooks := .later }
def ShaCopiesCardSaid : Prop := Claim7.holds Tryd.pinned (.plain (OpenSpec.ofChange shaCopiesSpec)) shaCopiesCard

/-- THE TIED CARD OF 'gantletlaw02.ShaConsts'. -/
def shaConstsCard : Claim7 := { stood := { row := shaConstsRow, standIns := [], harness := (true, "bb17f959236ef13e09a56a860adaa3deb48b25f10b25f95b7e438f570f24f1d3"), looks := false }, kinds := [], alts := [], laidByText := true, laidKinds := [.data, .data], laidTests := true, laidLooks := .later }
def ShaConstsCardSaid : Prop := Claim7.holds Tryd.pinned (.plain (OpenSpec.ofChange shaConstsSpec)) shaConstsCard

/-- THE TIED CARD OF 'gantletlaw02.ShaBlocks'. -/
def shaBlocksCard : Claim7 := { stood := { row := shaBlocksRow, standIns := [], harness := (true, "bb17f959236ef13e09a56a860adaa3deb48b25f10b25f95b7e438f570f24f1d3"), looks := false }, kinds := [], alts := [], laidByText := true, laidKinds := [.data, .data], laidTests := true, laidLooks := .later }
def ShaBlocksCardSaid : Prop := Claim7.holds Tryd.pinned (.plain (OpenSpec.ofChange shaBlocksSpec)) shaBlocksCard

/-- THE TIED CARD OF 'gantletlaw02.ShaAsked'. -/
def shaAskedCard : Claim7 := { stood := { row := shaAskedRow, standIns := [], harness := (true, "bb17f959236ef13e09a56a860adaa3deb48b25f10b25f95b7e438f570f24f1d3"), looks := false }, kinds := [], alts := [], laidByText := true, laidKinds := [.data, .data], laidTests := true, laidLooks := .later }
def ShaAskedCardSaid : Prop := Claim7.holds Tryd.pinned (.plain (OpenSpec.ofChange shaAskedSpec)) shaAskedCard

/-- THE TIED CARD OF 'gantletlaw21.TapPlays'. -/
def tapPlaysCard : Claim7 := { stood := { row := tapPlaysRow, standIns := [], harness := (true, "bb17f959236ef13e09a56a860adaa3deb48b25f10b25f95b7e438f570f24f1d3"), looks := false }, kinds := [], alts := [], laidByText := true, laidKinds := [.data, .data], laidTests := true, laidLooks := .later }
def TapPlaysCardSaid : Prop := Claim7.holds Tryd.pinned (.plain (OpenSpec.ofChange tapPlaysSpec)) tapPlaysCard

/-- THE TIED CARD OF 'gantletlaw21.TapParts'. -/
def tapPartsCard : Claim7 := { stood := { row := tapPartsRow, standIns := [], harness := (true, "bb17f959236ef13e09a56a860adaa3deb48b25f10b25f95b7e438f570f24f1d3"), looks := false }, kinds := [], alts := [], laidByText := true, laidKinds := [.data, .data], laidTests := true, laidLooks := .later }
def TapPartsCardSaid : Prop := Claim7.holds Tryd.pinned (.plain (OpenSpec.ofChange tapPartsSpec)) tapPartsCard

/-- THE TIED CARD OF 'gantletlaw21.TapHeads'. -/
def tapHeadsCard : Claim7 := { stood := { row := tapHeadsRow, standIns := [], harness := (true, "bb17f959236ef13e09a56a860adaa3deb48b25f10b25f95b7e438f570f24f1d3"), looks := false }, kinds := [], alts := [], laidByText := true, laidKinds := [.data, .data], laidTests := true, laidLooks := .later }
def TapHeadsCardSaid : Prop := Claim7.holds Tryd.pinned (.plain (OpenSpec.ofChange tapHeadsSpec)) tapHeadsCard

/-- THE TIED CARD OF 'gantletlaw21.TapPieces'. -/
def tapPiecesCard : Claim7 := { stood := { row := tapPiecesRow, standIns := [], harness := (true, "bb17f959236ef13e09a56a860adaa3deb48b25f10b25f95b7e438f570f24f1d3"), looks := false }, kinds := [], alts := [], laidByText := true, laidKinds := [.data, .data], laidTests := true, laidLooks := .later }
def TapPiecesCardSaid : Prop := Claim7.holds Tryd.pinned (.plain (OpenSpec.ofChange tapPiecesSpec)) tapPiecesCard

/-- THE SECOND FORM's CARD OF 'gantletlaw02.ShaSums'. -/
def shaSumsUptoCard : Claim7 := { stood := { row := shaSumsUptoRow, standIns := [], harness := (true, "bb17f959236ef13e09a56a860adaa3deb48b25f10b25f95b7e438f570f24f1d3"), looks := false }, kinds := [], alts := [], laidByText := true, laidKinds := [.data, .data], laidTests := true, laidLooks := .later }
def ShaSumsUptoCardSaid : Prop := Claim7.holds Tryd.pinned (.plain (OpenSpec.upto shaSumsSpec)) shaSumsUptoCard

/-- THE SECOND FORM's CARD OF 'gantletlaw02.ShaParts'. -/
def shaPartsUptoCard : Claim7 := { stood := { row := shaPartsUptoRow, standIns := [], harness := (true, "bb17f959236ef13e09a56a860adaa3deb48b25f10b25f95b7e438f570f24f1d3"), looks := false }, kinds := [], alts := [], laidByText := true, laidKinds := [.data, .data], laidTests := true, laidLooks := .later }
def ShaPartsUptoCardSaid : Prop := Claim7.holds Tryd.pinned (.plain (OpenSpec.upto shaPartsSpec)) shaPartsUptoCard

/-- THE SECOND FORM's CARD OF 'gantletlaw02.ShaCopies'. -/
def shaCopiesUptoCard : Claim7 := { stood := { row := shaCopiesUptoRow, standIns := [], harness := (true, "bb17f959236ef13e09a56a860adaa3deb48b25f10b25f95b7e438f570f24f1d3"), looks := false }, kinds := [], alts := [], laidByText := true, laidKinds := [.data, .data], laidTests := true, laidLooks := .later }
def ShaCopiesUptoCardSaid : Prop := Claim7.holds Tryd.pinned (.plain (OpenSpec.upto shaCopiesSpec)) shaCopiesUptoCard

/-- THE SECOND FORM's CARD OF 'gantletlaw02.ShaConsts'. -/
def shaConstsUptoCard : Claim7 := { stood := { row := shaConstsUptoRow, standIns := [], harness := (true, "bb17f959236ef13e09a56a860adaa3deb48b25f10b25f95b7e438f570f24f1d3"), looks := false }, kinds := [], alts := [], laidByText := true, laidKinds := [.data, .data], laidTests := true, laidLooks := .later }
def ShaConstsUptoCardSaid : Prop := Claim7.holds Tryd.pinned (.plain (OpenSpec.upto shaConstsSpec)) shaConstsUptoCard

/-- THE SECOND FORM's CARD OF 'gantletlaw02.ShaBlocks'. -/
def shaBlocksUptoCard : Claim7 := { stood := { row := shaBlocksUptoRow, standIns := [], harness := (true, "bb17f959236ef13e09a56a860adaa3deb48b25f10b25f95b7e438f570f24f1d3"), looks := false }, kinds := [], alts := [], laidByText := true, laidKinds := [.data, .data], laidTests := true, laidLooks := .later }
def ShaBlocksUptoCardSaid : Prop := Claim7.holds Tryd.pinned (.plain (OpenSpec.upto shaBlocksSpec)) shaBlocksUptoCard

/-- THE SECOND FORM's CARD OF 'gantletlaw02.ShaAsked'. -/
def shaAskedUptoCard : Claim7 := { stood := { row := shaAskedUptoRow, standIns := [], harness := (true, "bb17f959236ef13e09a56a860adaa3deb48b25f10b25f95b7e438f570f24f1d3"), looks := false }, kinds := [], alts := [], laidByText := true, laidKinds := [.data, .data], laidTests := true, laidLooks := .later }
def ShaAskedUptoCardSaid : Prop := Claim7.holds Tryd.pinned (.plain (OpenSpec.upto shaAskedSpec)) shaAskedUptoCard

/-- THE SECOND FORM's CARD OF 'gantletlaw21.TapPlays'. -/
def tapPlaysUptoCard : Claim7 := { stood := { row := tapPlaysUptoRow, standIns := [], harness := (true, "bb17f959236ef13e09a56a860adaa3deb48b25f10b25f95b7e438f570f24f1d3"), looks := false }, kinds := [], alts := [], laidByText := true, laidKinds := [.data, .data], laidTests := true, laidLooks := .later }
def TapPlaysUptoCardSaid : Prop := Claim7.holds Tryd.pinned (.plain (OpenSpec.upto tapPlaysSpec)) tapPlaysUptoCard

/-- THE SECOND FORM's CARD OF 'gantletlaw21.TapParts'. -/
def tapPartsUptoCard : Claim7 := { stood := { row := tapPartsUptoRow, standIns := [], harness := (true, "bb17f959236ef13e09a56a860adaa3deb48b25f10b25f95b7e438f570f24f1d3"), looks := false }, kinds := [], alts := [], laidByText := true, laidKinds := [.data, .data], laidTests := true, laidLooks := .later }
def TapPartsUptoCardSaid : Prop := Claim7.holds Tryd.pinned (.plain (OpenSpec.upto tapPartsSpec)) tapPartsUptoCard

/-- THE SECOND FORM's CARD OF 'gantletlaw21.TapHeads'. -/
def tapHeadsUptoCard : Claim7 := { stood := { row := tapHeadsUptoRow, standIns := [], harness := (true, "bb17f959236ef13e09a56a860adaa3deb48b25f10b25f95b7e438f570f24f1d3"), looks := false }, kinds := [], alts := [], laidByText := true, laidKinds := [.data, .data], laidTests := true, laidLooks := .later }
def TapHeadsUptoCardSaid : Prop := Claim7.holds Tryd.pinned (.plain (OpenSpec.upto tapHeadsSpec)) tapHeadsUptoCard

/-- THE SECOND FORM's CARD OF 'gantletlaw21.TapPieces'. -/
def tapPiecesUptoCard : Claim7 := { stood := { row := tapPiecesUptoRow, standIns := [], harness := (true, "bb17f959236ef13e09a56a860adaa3deb48b25f10b25f95b7e438f570f24f1d3"), looks := false }, kinds := [], alts := [], laidByText := true, laidKinds := [.data, .data], laidTests := true, laidLooks := .later }
def TapPiecesUptoCardSaid : Prop := Claim7.holds Tryd.pinned (.plain (OpenSpec.upto tapPiecesSpec)) tapPiecesUptoCard
end Rows
end Go.Proofs.YtdiccgpgmddbdaaDoor
