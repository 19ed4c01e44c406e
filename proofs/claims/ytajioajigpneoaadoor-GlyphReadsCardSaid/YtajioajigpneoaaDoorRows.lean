/-
  NARROWER THAN 'FOR EVERY INPUT', by the rows' own cells (each row's printed sentence says how): GlyphRight: laid · GlyphSigns: laid · GlyphWrites: laid · GlyphReads: laid · GlyphJoins: laid.
  DERIVED. THE GIVEN ROWS OF THIS SEAT. 5 by the template 'for every input the law returns true; each argument reads behind the call as it read before'; 0 by the template 'total and deterministic' (their statements: YtajioajigpneoaaDoorTotals.lean).
  GIVEN WITH THE SEED: the statements are not yours to turn. If you find one false, say at which input.
  Laid BY PROGRAM, IN A SANDBOX (cutbox-rows.mjs): the forced cells as the released guide's own fill.sh prints them over the translation b51a12db9e5620fc… (all of the seat's roots in one cut). By AI agents, Wed Nov 11 2026. No macro, syntax, notation, axiom, sorry.
-/
import Derived.Test.YtajioajigpneoaaDoorChecked
import GoSem.PinnedTables
import GoSem.Claim
import GoSem.ClaimJoined
import GoSem.ClaimMapViews
import Derived.JoinedTies
import Derived.KernelRfl
namespace Go.Proofs.YtajioajigpneoaaDoor
/- THE CELL 'sum', in the pinned program and in every row, IS THE sha256 OF THE DUMP (.gsa) THAT YtajioajigpneoaaDoorProg.lean LOADS. Nothing in Lean hashes anything: it is a label: what it is worth is what the hold of that sum in a sandbox is worth. -/
noncomputable def Tryd.pinned : Pinned := { name := "ytajioajigpneoaadoor", sum := "b51a12db9e5620fce51c2be292127926127014ef8bc723694d3dd8629d7251c7", checked := Tryd.checked }
namespace Rows
def none {H : Type} : Left H := { results := [], args := [] }

/- WHAT THE LISTED PACKAGE-LEVEL VARIABLES READ AS WHEN THE CALL BEGINS. Each datum BY PROGRAM (the guide's laid-datum.mjs) off the statement by which the dump's own 'gosem.cut.vars' lays the variable. In a bare row this is a premise. The card (YtajioajigpneoaaDoorCards.lean) ties it to the program's text. -/
def laid_unicode_utf8_acceptRanges {H : Type} : DataW H := .agg [.agg [.lit (.int .u8 128), .lit (.int .u8 191)], .agg [.lit (.int .u8 160), .lit (.int .u8 191)], .agg [.lit (.int .u8 128), .lit (.int .u8 159)], .agg [.lit (.int .u8 144), .lit (.int .u8 191)], .agg [.lit (.int .u8 128), .lit (.int .u8 143)], .agg [.lit (.int .u8 0), .lit (.int .u8 0)], .agg [.lit (.int .u8 0), .lit (.int .u8 0)], .agg [.lit (.int .u8 0), .lit (.int .u8 0)], .agg [.lit (.int .u8 0), .lit (.int .u8 0)], .agg [.lit (.int .u8 0), .lit (.int .u8 0)], .agg [.lit (.int .u8 0), .lit (.int .u8 0)], .agg [.lit (.int .u8 0), .lit (.int .u8 0)], .agg [.lit (.int .u8 0), .lit (.int .u8 0)], .agg [.lit (.int .u8 0), .lit (.int .u8 0)], .agg [.lit (.int .u8 0), .lit (.int .u8 0)], .agg [.lit (.int .u8 0), .lit (.int .u8 0)]]
/-- One of Go's own tables, pinned by name: the form's constant. -/
def laid_unicode_utf8_first : DataW Unit := Go.Pinned.utf8First

/-- 'florinlaw09.GlyphRight': WHATEVER THE INPUT: true; the input reads as it did. -/
def glyphRightSpec : ChangeSpec := { name := "glyphRight", fn := fun _ => fun
  | [d] => { results := [.lit (.bool true)], args := [d] }
  | _ => none }
def glyphRightRow : OpenClaim := { program := "ytajioajigpneoaadoor", sum := "b51a12db9e5620fce51c2be292127926127014ef8bc723694d3dd8629d7251c7", func := "florin/florinlaw09.GlyphRight", spec := "glyphRight", named := ["unicode/utf8.first", "unicode/utf8.acceptRanges"], apart := false, laid := [("unicode/utf8.acceptRanges", laid_unicode_utf8_acceptRanges), ("unicode/utf8.first", laid_unicode_utf8_first)] }
def GlyphRightSaid : Prop := glyphRightRow.holds Tryd.pinned (OpenSpec.ofChange glyphRightSpec)

/-- ITS FALSE NEIGHBOUR: 'it returns false'. Refute it at one input. -/
def glyphRightWrong : ChangeSpec := { name := "glyphRight", fn := fun _ => fun
  | [d] => { results := [.lit (.bool false)], args := [d] }
  | _ => none }
def GlyphRightWrongFalsely : Prop := glyphRightRow.holds Tryd.pinned (OpenSpec.ofChange glyphRightWrong)

/-- 'florinlaw09.GlyphSigns': WHATEVER THE INPUT: true; the input reads as it did. -/
def glyphSignsSpec : ChangeSpec := { name := "glyphSigns", fn := fun _ => fun
  | [d1, d2, d3] => { results := [.lit (.bool true)], args := [d1, d2, d3] }
  | _ => none }
def glyphSignsRow : OpenClaim := { program := "ytajioajigpneoaadoor", sum := "b51a12db9e5620fce51c2be292127926127014ef8bc723694d3dd8629d7251c7", func := "florin/florinlaw09.GlyphSigns", spec := "glyphSigns", named := ["unicode/utf8.first", "unicode/utf8.acceptRanges"], apart := false, laid := [("unicode/utf8.acceptRanges", laid_unicode_utf8_acceptRanges), ("unicode/utf8.first", laid_unicode_utf8_first)] }
def GlyphSignsSaid : Prop := glyphSignsRow.holds Tryd.pinned (OpenSpec.ofChange glyphSignsSpec)

/-- ITS FALSE NEIGHBOUR: 'it returns false'. Refute it at one input. -/
def glyphSignsWrong : ChangeSpec := { name := "glyphSigns", fn := fun _ => fun
  | [d1, d2, d3] => { results := [.lit (.bool false)], args := [d1, d2, d3] }
  | _ => none }
def GlyphSignsWrongFalsely : Prop := glyphSignsRow.holds Tryd.pinned (OpenSpec.ofChange glyphSignsWrong)

/-- 'florinlaw09.GlyphWrites': WHATEVER THE INPUT: true; the input reads as it did. -/
def glyphWritesSpec : ChangeSpec := { name := "glyphWrites", fn := fun _ => fun
  | [d1, d2, d3] => { results := [.lit (.bool true)], args := [d1, d2, d3] }
  | _ => none }
def glyphWritesRow : OpenClaim := { program := "ytajioajigpneoaadoor", sum := "b51a12db9e5620fce51c2be292127926127014ef8bc723694d3dd8629d7251c7", func := "florin/florinlaw09.GlyphWrites", spec := "glyphWrites", inPlace := ["internal/abi.NoEscape"], named := ["unicode/utf8.first", "unicode/utf8.acceptRanges"], apart := false, laid := [("unicode/utf8.acceptRanges", laid_unicode_utf8_acceptRanges), ("unicode/utf8.first", laid_unicode_utf8_first)] }
def GlyphWritesSaid : Prop := glyphWritesRow.holds Tryd.pinned (OpenSpec.ofChange glyphWritesSpec)

/-- ITS FALSE NEIGHBOUR: 'it returns false'. Refute it at one input. -/
def glyphWritesWrong : ChangeSpec := { name := "glyphWrites", fn := fun _ => fun
  | [d1, d2, d3] => { results := [.lit (.bool false)], args := [d1, d2, d3] }
  | _ => none }
def GlyphWritesWrongFalsely : Prop := glyphWritesRow.holds Tryd.pinned (OpenSpec.ofChange glyphWritesWrong)

/-- 'florinlaw09.GlyphReads': WHATEVER THE INPUT: true; the input reads as it did. -/
def glyphReadsSpec : ChangeSpec := { name := "glyphReads", fn := fun _ => fun
  | [d1, d2] => { results := [.lit (.bool true)], args := [d1, d2] }
  | _ => none }
def glyphReadsRow : OpenClaim := { program := "ytajioajigpneoaadoor", sum := "b51a12db9e5620fce51c2be292127926127014ef8bc723694d3dd8629d7251c7", func := "florin/florinlaw09.GlyphReads", spec := "glyphReads", inPlace := ["internal/abi.NoEscape"], named := ["unicode/utf8.first", "unicode/utf8.acceptRanges"], apart := false, laid := [("unicode/utf8.acceptRanges", laid_unicode_utf8_acceptRanges), ("unicode/utf8.first", laid_unicode_utf8_first)] }
def GlyphReadsSaid : Prop := glyphReadsRow.holds Tryd.pinned (OpenSpec.ofChange glyphReadsSpec)

/-- ITS FALSE NEIGHBOUR: 'it returns false'. Refute it at one input. -/
def glyphReadsWrong : ChangeSpec := { name := "glyphReads", fn := fun _ => fun
  | [d1, d2] => { results := [.lit (.bool false)], args := [d1, d2] }
  | _ => none }
def GlyphReadsWrongFalsely : Prop := glyphReadsRow.holds Tryd.pinned (OpenSpec.ofChange glyphReadsWrong)

/-- 'florinlaw09.GlyphJoins': WHATEVER THE INPUT: true; the input reads as it did. -/
def glyphJoinsSpec : ChangeSpec := { name := "glyphJoins", fn := fun _ => fun
  | [d1, d2, d3] => { results := [.lit (.bool true)], args := [d1, d2, d3] }
  | _ => none }
def glyphJoinsRow : OpenClaim := { program := "ytajioajigpneoaadoor", sum := "b51a12db9e5620fce51c2be292127926127014ef8bc723694d3dd8629d7251c7", func := "florin/florinlaw09.GlyphJoins", spec := "glyphJoins", inPlace := ["internal/abi.NoEscape"], named := ["unicode/utf8.first", "unicode/utf8.acceptRanges"], apart := false, laid := [("unicode/utf8.acceptRanges", laid_unicode_utf8_acceptRanges), ("unicode/utf8.first", laid_unicode_utf8_first)] }
def GlyphJoinsSaid : Prop := glyphJoinsRow.holds Tryd.pinned (OpenSpec.ofChange glyphJoinsSpec)

/-- ITS FALSE NEIGHBOUR: 'it returns false'. Refute it at one input. -/
def glyphJoinsWrong : ChangeSpec := { name := "glyphJoins", fn := fun _ => fun
  | [d1, d2, d3] => { results := [.lit (.bool false)], args := [d1, d2, d3] }
  | _ => none }
def GlyphJoinsWrongFalsely : Prop := glyphJoinsRow.holds Tryd.pinned (OpenSpec.ofChange glyphJoinsWrong)

/- THE SECOND FORM. 'bulk': how many values and letters a reading holds, each counted each time it is reached (what is shared counts as often as it is met; a slice's spare places count too). A statement '..UptoSaid' is the law's where the arguments, and the package variables that the reading takes, are together of bulk at most 1048576: NARROWER than '..Said'. Prove '..Said' where nothing that the law and all that it calls make is longer than what came in: it says more and counts as full. Else prove '..UptoSaid'. A law counts once. -/
mutual
def uptoBulk {H : Type} : DataW H → Nat
  | .lit (.string bytes) => bytes.length + 1
  | .lit _ => 1
  | .nil => 1
  | .ptr d => uptoBulk d + 1
  | .slice elems spare => uptoBulkAll elems + uptoBulkAll spare + 1
  | .agg parts => uptoBulkAll parts + 1
  | .iface _ d => uptoBulk d + 1
  | .map entries => uptoBulkEntries entries + 1
  | .held _ => 1
def uptoBulkAll {H : Type} : List (DataW H) → Nat
  | [] => 0
  | d :: r => uptoBulk d + uptoBulkAll r
def uptoBulkEntries {H : Type} : List (Lit × DataW H) → Nat
  | [] => 0
  | x :: r => uptoBulkEntry x + uptoBulkEntries r
def uptoBulkEntry {H : Type} : Lit × DataW H → Nat
  | (.string bytes, d) => bytes.length + uptoBulk d + 1
  | (_, d) => uptoBulk d + 1
 end
def uptoSmall : (H : Type) → List (DataW H) → Bool := fun _ ds => decide (uptoBulkAll ds ≤ 1048576)
def OpenSpec.upto (s : _root_.Go.ChangeSpec) : _root_.Go.OpenSpec := { _root_.Go.OpenSpec.ofChange s with cond := some uptoSmall }

/-- 'florinlaw09.GlyphRight', WHERE WHAT IT READS IS OF BULK AT MOST 1048576: true; the input reads as it did. -/
def glyphRightUptoRow : OpenClaim := { program := "ytajioajigpneoaadoor", sum := "b51a12db9e5620fce51c2be292127926127014ef8bc723694d3dd8629d7251c7", func := "florin/florinlaw09.GlyphRight", spec := "glyphRight", named := ["unicode/utf8.first", "unicode/utf8.acceptRanges"], apart := false, laid := [("unicode/utf8.acceptRanges", laid_unicode_utf8_acceptRanges), ("unicode/utf8.first", laid_unicode_utf8_first)], narrowed := true }
def GlyphRightUptoSaid : Prop := glyphRightUptoRow.holds Tryd.pinned (OpenSpec.upto glyphRightSpec)

/-- 'florinlaw09.GlyphSigns', WHERE WHAT IT READS IS OF BULK AT MOST 1048576: true; the input reads as it did. -/
def glyphSignsUptoRow : OpenClaim := { program := "ytajioajigpneoaadoor", sum := "b51a12db9e5620fce51c2be292127926127014ef8bc723694d3dd8629d7251c7", func := "florin/florinlaw09.GlyphSigns", spec := "glyphSigns", named := ["unicode/utf8.first", "unicode/utf8.acceptRanges"], apart := false, laid := [("unicode/utf8.acceptRanges", laid_unicode_utf8_acceptRanges), ("unicode/utf8.first", laid_unicode_utf8_first)], narrowed := true }
def GlyphSignsUptoSaid : Prop := glyphSignsUptoRow.holds Tryd.pinned (OpenSpec.upto glyphSignsSpec)

/-- 'florinlaw09.GlyphWrites', WHERE WHAT IT READS IS OF BULK AT MOST 1048576: true; the input reads as it did. -/
def glyphWritesUptoRow : OpenClaim := { program := "ytajioajigpneoaadoor", sum := "b51a12db9e5620fce51c2be292127926127014ef8bc723694d3dd8629d7251c7", func := "florin/florinlaw09.GlyphWrites", spec := "glyphWrites", inPlace := ["internal/abi.NoEscape"], named := ["unicode/utf8.first", "unicode/utf8.acceptRanges"], apart := false, laid := [("unicode/utf8.acceptRanges", laid_unicode_utf8_acceptRanges), ("unicode/utf8.first", laid_unicode_utf8_first)], narrowed := true }
def GlyphWritesUptoSaid : Prop := glyphWritesUptoRow.holds Tryd.pinned (OpenSpec.upto glyphWritesSpec)

/-- 'florinlaw09.GlyphReads', WHERE WHAT IT READS IS OF BULK AT MOST 1048576: true; the input reads as it did. -/
def glyphReadsUptoRow : OpenClaim := { program := "ytajioajigpneoaadoor", sum := "b51a12db9e5620fce51c2be292127926127014ef8bc723694d3dd8629d7251c7", func := "florin/florinlaw09.GlyphReads", spec := "glyphReads", inPlace := ["internal/abi.NoEscape"], named := ["unicode/utf8.first", "unicode/utf8.acceptRanges"], apart := false, laid := [("unicode/utf8.acceptRanges", laid_unicode_utf8_acceptRanges), ("unicode/utf8.first", laid_unicode_utf8_first)], narrowed := true }
def GlyphReadsUptoSaid : Prop := glyphReadsUptoRow.holds Tryd.pinned (OpenSpec.upto glyphReadsSpec)

/-- 'florinlaw09.GlyphJoins', WHERE WHAT IT READS IS OF BULK AT MOST 1048576: true; the input reads as it did. -/
def glyphJoinsUptoRow : OpenClaim := { program := "ytajioajigpneoaadoor", sum := "b51a12db9e5620fce51c2be292127926127014ef8bc723694d3dd8629d7251c7", func := "florin/florinlaw09.GlyphJoins", spec := "glyphJoins", inPlace := ["internal/abi.NoEscape"], named := ["unicode/utf8.first", "unicode/utf8.acceptRanges"], apart := false, laid := [("unicode/utf8.acceptRanges", laid_unicode_utf8_acceptRanges), ("unicode/utf8.first", laid_unicode_utf8_first)], narrowed := true }
def GlyphJoinsUptoSaid : Prop := glyphJoinsUptoRow.holds Tryd.pinned (OpenSpec.upto glyphJoinsSpec)

end Rows
end Go.Proofs.YtajioajigpneoaaDoor
