/-
  DERIVED. GIVEN WITH THE SEED: THE CARDS: each row of YtlibddklalbmeaaDoorRows.lean that lists a variable, with what it lists TIED to the program's text (the seventh form; the later family's looks); each row that meets fmt, with fmt's text TOLD by the authors' own Lean function (tested against real Go, not proved from fmt's source: count such statements apart). THE CARD IS WHAT COUNTS. Prove the row's statement (the work); the ties are given (YtlibddklalbmeaaDoorTie.lean); close each card by the builder's one call (the guide's Derived/Test/ToyasCard.lean, 'card_holds'). Laid BY PROGRAM, IN A SANDBOX (cutbox-door.mjs). By AI agents, Wed Nov 11 2026. No macro, syntax, notation, axiom, sorry.
-/
import Derived.Test.YtlibddklalbmeaaDoorRows
import GoSem.ClaimSeven
namespace Go.Proofs.YtlibddklalbmeaaDoor
namespace Rows

/-- THE TIED CARD OF 'flumelaw5.SeriesBack'. -/
def seriesBackCard : Claim7 := { stood := { row := seriesBackRow, standIns := [], harness := (true, "73bd7bdada51bc3f83ddc4b53f57a1feec610e48cacb053ec5faee2afa9822f4"), looks := false }, kinds := [], alts := [], laidByText := true, laidKinds := [.data], laidTests := true, laidLooks := .later }
def SeriesBackCardSaid : Prop := Claim7.holds Tryd.pinned (.plain (OpenSpec.ofChange seriesBackSpec)) seriesBackCard

/-- THE TIED CARD OF 'flumelaw5.SeriesReads'. -/
def seriesReadsCard : Claim7 := { stood := { row := seriesReadsRow, standIns := [], harness := (true, "73bd7bdada51bc3f83ddc4b53f57a1feec610e48cacb053ec5faee2afa9822f4"), looks := false }, kinds := [], alts := [], laidByText := true, laidKinds := [.data], laidTests := true, laidLooks := .later }
def SeriesReadsCardSaid : Prop := Claim7.holds Tryd.pinned (.plain (OpenSpec.ofChange seriesReadsSpec)) seriesReadsCard

/-- THE TIED CARD OF 'flumelaw5.SeriesSame'. -/
def seriesSameCard : Claim7 := { stood := { row := seriesSameRow, standIns := [], harness := (true, "73bd7bdada51bc3f83ddc4b53f57a1feec610e48cacb053ec5faee2afa9822f4"), looks := false }, kinds := [], alts := [], laidByText := true, laidKinds := [.data], laidTests := true, laidLooks := .later }
def SeriesSameCardSaid : Prop := Claim7.holds Tryd.pinned (.plain (OpenSpec.ofChange seriesSameSpec)) seriesSameCard

/-- THE TIED CARD OF 'flumelaw5.SeriesAll'. -/
def seriesAllCard : Claim7 := { stood := { row := seriesAllRow, standIns := [], harness := (true, "73bd7bdada51bc3f83ddc4b53f57a1feec610e48cacb053ec5faee2afa9822f4"), looks := false }, kinds := [], alts := [], laidByText := true, laidKinds := [.data], laidTests := true, laidLooks := .later }
def SeriesAllCardSaid : Prop := Claim7.holds Tryd.pinned (.plain (OpenSpec.ofChange seriesAllSpec)) seriesAllCard

/-- THE SECOND FORM's CARD OF 'flumelaw5.SeriesBack'. -/
def seriesBackUptoCard : Claim7 := { stood := { row := seriesBackUptoRow, standIns := [], harness := (true, "73bd7bdada51bc3f83ddc4b53f57a1feec610e48cacb053ec5faee2afa9822f4"), looks := false }, kinds := [], alts := [], laidByText := true, laidKinds := [.data], laidTests := true, laidLooks := .later }
def SeriesBackUptoCardSaid : Prop := Claim7.holds Tryd.pinned (.plain (OpenSpec.upto seriesBackSpec)) seriesBackUptoCard

/-- THE SECOND FORM's CARD OF 'flumelaw5.SeriesReads'. -/
def seriesReadsUptoCard : Claim7 := { stood := { row := seriesReadsUptoRow, standIns := [], harness := (true, "73bd7bdada51bc3f83ddc4b53f57a1feec610e48cacb053ec5faee2afa9822f4"), looks := false }, kinds := [], alts := [], laidByText := true, laidKinds := [.data], laidTests := true, laidLooks := .later }
def SeriesReadsUptoCardSaid : Prop := Claim7.holds Tryd.pinned (.plain (OpenSpec.upto seriesReadsSpec)) seriesReadsUptoCard

/-- THE SECOND FORM's CARD OF 'flumelaw5.SeriesSame'. -/
def seriesSameUptoCard : Claim7 := { stood := { row := seriesSameUptoRow, standIns := [], harness := (true, "73bd7bdada51bc3f83ddc4b53f57a1feec610e48cacb053ec5faee2afa9822f4"), looks := false }, kinds := [], alts := [], laidByText := true, laidKinds := [.data], laidTests := true, laidLooks := .later }
def SeriesSameUptoCardSaid : Prop := Claim7.holds Tryd.pinned (.plain (OpenSpec.upto seriesSameSpec)) seriesSameUptoCard

/-- THE SECOND FORM's CARD OF 'flumelaw5.SeriesAll'. -/
def seriesAllUptoCard : Claim7 := { stood := { row := seriesAllUptoRow, standIns := [], harness := (true, "73bd7bdada51bc3f83ddc4b53f57a1feec610e48cacb053ec5faee2afa9822f4"), looks := false }, kinds := [], alts := [], laidByText := true, laidKinds := [.data], laidTests := true, laidLooks := .later }
def SeriesAllUptoCardSaid : Prop := Claim7.holds Tryd.pinned (.plain (OpenSpec.upto seriesAllSpec)) seriesAllUptoCard
end Rows
end Go.Proofs.YtlibddklalbmeaaDoor
