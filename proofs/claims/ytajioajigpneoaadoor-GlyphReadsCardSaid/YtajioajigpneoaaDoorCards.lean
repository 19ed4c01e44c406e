/-
  DERIVED. GIVEN WITH THE SEED: THE CARDS: each row of YtajioajigpneoaaDoorRows.lean that lists a variable, with what it lists TIED to the program's text (the seventh form; the later family's looks); each row that meets fmt, with fmt's text TOLD by the authors' own Lean function (tested against real Go, not proved from fmt's source: count such statements apart). THE CARD IS WHAT COUNTS. Prove the row's statement (the work); the ties are given (YtajioajigpneoaaDoorTie.lean); close each card by the builder's one call (the guide's Derived/Test/ToyasCard.lean, 'card_holds'). Laid BY PROGRAM, IN A SANDBOX (cutbox-door.mjs). By AI agents, Wed Nov 11 2026. No macro, syntax, notation, axiom, sorry.
-/
import Derived.Test.YtajioajigpneoaaDoorRows
import GoSem.ClaimSeven
namespace Go.Proofs.YtajioajigpneoaaDoor
namespace Rows

/-- THE TIED CARD OF 'florinlaw09.GlyphRight'. -/
def glyphRightCard : Claim7 := { stood := { row := glyphRightRow, standIns := [], harness := (true, "2668dfd7882ed33087c5461d0ed3f8f1541e091d34b2494f718517da85b5768e"), looks := false }, kinds := [], alts := [], laidByText := true, laidKinds := [.data, .pinned], laidTests := true, laidLooks := .later }
def GlyphRightCardSaid : Prop := Claim7.holds Tryd.pinned (.plain (OpenSpec.ofChange glyphRightSpec)) glyphRightCard

/-- THE TIED CARD OF 'florinlaw09.GlyphSigns'. -/
def glyphSignsCard : Claim7 := { stood := { row := glyphSignsRow, standIns := [], harness := (true, "2668dfd7882ed33087c5461d0ed3f8f1541e091d34b2494f718517da85b5768e"), looks := false }, kinds := [], alts := [], laidByText := true, laidKinds := [.data, .pinned], laidTests := true, laidLooks := .later }
def GlyphSignsCardSaid : Prop := Claim7.holds Tryd.pinned (.plain (OpenSpec.ofChange glyphSignsSpec)) glyphSignsCard

/-- THE TIED CARD OF 'florinlaw09.GlyphWrites'. -/
def glyphWritesCard : Claim7 := { stood := { row := glyphWritesRow, standIns := [], harness := (true, "2668dfd7882ed33087c5461d0ed3f8f1541e091d34b2494f718517da85b5768e"), looks := false }, kinds := [], alts := [], laidByText := true, laidKinds := [.data, .pinned], laidTests := true, laidLooks := .later }
def GlyphWritesCardSaid : Prop := Claim7.holds Tryd.pinned (.plain (OpenSpec.ofChange glyphWritesSpec)) glyphWritesCard

/-- THE TIED CARD OF 'florinlaw09.GlyphReads'. -/
def glyphReadsCard : Claim7 := { stood := { row := glyphReadsRow, standIns := [], harness := (true, "2668dfd7882ed33087c5461d0ed3f8f1541e091d34b2494f718517da85b5768e"), looks := false }, kinds := [], alts := [], laidByText := true, laidKinds := [.data, .pinned], laidTests := true, laidLooks := .later }
def GlyphReadsCardSaid : Prop := Claim7.holds Tryd.pinned (.plain (OpenSpec.ofChange glyphReadsSpec)) glyphReadsCard

/-- THE TIED CARD OF 'florinlaw09.GlyphJoins'. -/
def glyphJoinsCard : Claim7 := { stood := { row := glyphJoinsRow, standIns := [], harness := (true, "2668dfd7882ed33087c5461d0ed3f8f1541e091d34b2494f718517da85b5768e"), looks := false }, kinds := [], alts := [], laidByText := true, laidKinds := [.data, .pinned], laidTests := true, laidLooks := .later }
def GlyphJoinsCardSaid : Prop := Claim7.holds Tryd.pinned (.plain (OpenSpec.ofChange glyphJoinsSpec)) glyphJoinsCard

/-- THE SECOND FORM's CARD OF 'florinlaw09.GlyphRight'. -/
def glyphRightUptoCard : Claim7 := { stood := { row := glyphRightUptoRow, standIns := [], harness := (true, "2668dfd7882ed33087c5461d0ed3f8f1541e091d34b2494f718517da85b5768e"), looks := false }, kinds := [], alts := [], laidByText := true, laidKinds := [.data, .pinned], laidTests := true, laidLooks := .later }
def GlyphRightUptoCardSaid : Prop := Claim7.holds Tryd.pinned (.plain (OpenSpec.upto glyphRightSpec)) glyphRightUptoCard

/-- THE SECOND FORM's CARD OF 'florinlaw09.GlyphSigns'. -/
def glyphSignsUptoCard : Claim7 := { stood := { row := glyphSignsUptoRow, standIns := [], harness := (true, "2668dfd7882ed33087c5461d0ed3f8f1541e091d34b2494f718517da85b5768e"), looks := false }, kinds := [], alts := [], laidByText := true, laidKinds := [.data, .pinned], laidTests := true, laidLooks := .later }
def GlyphSignsUptoCardSaid : Prop := Claim7.holds Tryd.pinned (.plain (OpenSpec.upto glyphSignsSpec)) glyphSignsUptoCard

/-- THE SECOND FORM's CARD OF 'florinlaw09.GlyphWrites'. -/
def glyphWritesUptoCard : Claim7 := { stood := { row := glyphWritesUptoRow, standIns := [], harness := (true, "2668dfd7882ed33087c5461d0ed3f8f1541e091d34b2494f718517da85b5768e"), looks := false }, kinds := [], alts := [], laidByText := true, laidKinds := [.data, .pinned], laidTests := true, laidLooks := .later }
def GlyphWritesUptoCardSaid : Prop := Claim7.holds Tryd.pinned (.plain (OpenSpec.upto glyphWritesSpec)) glyphWritesUptoCard

/-- THE SECOND FORM's CARD OF 'florinlaw09.GlyphReads'. -/
def glyphReadsUptoCard : Claim7 := { stood := { row := glyphReadsUptoRow, standIns := [], harness := (true, "2668dfd7882ed33087c5461d0ed3f8f1541e091d34b2494f718517da85b5768e"), looks := false }, kinds := [], alts := [], laidByText := true, laidKinds := [.data, .pinned], laidTests := true, laidLooks := .later }
def GlyphReadsUptoCardSaid : Prop := Claim7.holds Tryd.pinned (.plain (OpenSpec.upto glyphReadsSpec)) glyphReadsUptoCard

/-- THE SECOND FORM's CARD OF 'florinlaw09.GlyphJoins'. -/
def glyphJoinsUptoCard : Claim7 := { stood := { row := glyphJoinsUptoRow, standIns := [], harness := (true, "2668dfd7882ed33087c5461d0ed3f8f1541e091d34b2494f718517da85b5768e"), looks := false }, kinds := [], alts := [], laidByText := true, laidKinds := [.data, .pinned], laidTests := true, laidLooks := .later }
def GlyphJoinsUptoCardSaid : Prop := Claim7.holds Tryd.pinned (.plain (OpenSpec.upto glyphJoinsSpec)) glyphJoinsUptoCard
end Rows
end Go.Proofs.YtajioajigpneoaaDoor
