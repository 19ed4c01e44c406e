/-
  DERIVED. GIVEN WITH THE SEED: THE CARDS: each row of YtikkakbemphdhaaDoorRows.lean that lists a variable, with what it lists TIED to the program's text (the seventh form; the later family's looks); each row that meets fmt, with fmt's text TOLD by the authors' own Lean function (tested against real Go, not proved from fmt's source: count such statements apart). THE CARD IS WHAT COUNTS. Prove the row's statement (the work); the ties are given (YtikkakbemphdhaaDoorTie.lean); close each card by the builder's one call (the guide's Derived/Test/ToyasCard.lean, 'card_holds'). Laid BY PROGRAM, IN A SANDBOX (cutbox-door.mjs). By AI agents, Wed Nov 11 2026. No macro, syntax, notation, axiom, sorry.
-/
import Derived.Test.YtikkakbemphdhaaDoorRows
import GoSem.ClaimSeven
namespace Go.Proofs.YtikkakbemphdhaaDoor
namespace Rows

/-- THE TIED CARD OF 'florinlaw13.BraceFills'. -/
def braceFillsCard : Claim7 := { stood := { row := braceFillsRow, standIns := [], harness := (true, "675d700c4191667a27402b1eb3713f1eb8d3635fe2a88930c2174848103ea094"), looks := false }, kinds := [], alts := [], laidByText := true, laidKinds := [.data, .pinned], laidTests := true, laidLooks := .later }
def BraceFillsCardSaid : Prop := Claim7.holds Tryd.pinned (.plain (OpenSpec.ofChange braceFillsSpec)) braceFillsCard

/-- THE TIED CARD OF 'florinlaw13.BraceReads'. -/
def braceReadsCard : Claim7 := { stood := { row := braceReadsRow, standIns := [], harness := (true, "675d700c4191667a27402b1eb3713f1eb8d3635fe2a88930c2174848103ea094"), looks := false }, kinds := [], alts := [], laidByText := true, laidKinds := [.data, .pinned], laidTests := true, laidLooks := .later }
def BraceReadsCardSaid : Prop := Claim7.holds Tryd.pinned (.plain (OpenSpec.ofChange braceReadsSpec)) braceReadsCard

/-- THE TIED CARD OF 'florinlaw13.BraceAgain'. -/
def braceAgainCard : Claim7 := { stood := { row := braceAgainRow, standIns := [], harness := (true, "675d700c4191667a27402b1eb3713f1eb8d3635fe2a88930c2174848103ea094"), looks := false }, kinds := [], alts := [], laidByText := true, laidKinds := [.data, .pinned], laidTests := true, laidLooks := .later }
def BraceAgainCardSaid : Prop := Claim7.holds Tryd.pinned (.plain (OpenSpec.ofChange braceAgainSpec)) braceAgainCard

/-- THE SECOND FORM's CARD OF 'florinlaw13.BraceFills'. -/
def braceFillsUptoCard : Claim7 := { stood := { row := braceFillsUptoRow, standIns := [], harness := (true, "675d700c4191667a27402b1eb3713f1eb8d3635fe2a88930c2174848103ea094"), looks := false }, kinds := [], alts := [], laidByText := true, laidKinds := [.data, .pinned], laidTests := true, laidLooks := .later }
def BraceFillsUptoCardSaid : Prop := Claim7.holds Tryd.pinned (.plain (OpenSpec.upto braceFillsSpec)) braceFillsUptoCard

/-- THE SECOND FORM's CARD OF 'florinlaw13.BraceReads'. -/
def braceReadsUptoCard : Claim7 := { stood := { row := braceReadsUptoRow, standIns := [], harness := (true, "675d700c4191667a27402b1eb3713f1eb8d3635fe2a88930c2174848103ea094"), looks := false }, kinds := [], alts := [], laidByText := true, laidKinds := [.data, .pinned], laidTests := true, laidLooks := .later }
def BraceReadsUptoCardSaid : Prop := Claim7.holds Tryd.pinned (.plain (OpenSpec.upto braceReadsSpec)) braceReadsUptoCard

/-- THE SECOND FORM's CARD OF 'florinlaw13.BraceAgain'. -/
def braceAgainUptoCard : Claim7 := { stood := { row := braceAgainUptoRow, standIns := [], harness := (true, "675d700c4191667a27402b1eb3713f1eb8d3635fe2a88930c2174848103ea094"), looks := false }, kinds := [], alts := [], laidByText := true, laidKinds := [.data, .pinned], laidTests := true, laidLooks := .later }
def BraceAgainUptoCardSaid : Prop := Claim7.holds Tryd.pinned (.plain (OpenSpec.upto braceAgainSpec)) braceAgainUptoCard
end Rows
end Go.Proofs.YtikkakbemphdhaaDoor
