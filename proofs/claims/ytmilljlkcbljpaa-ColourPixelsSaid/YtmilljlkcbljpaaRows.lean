/-
  No cell of these rows narrows 'for every input' (looked for: loops, veiled, ifaces, maps, wideKeys, modest, calm, conditions, laid).
  DERIVED. THE GIVEN ROWS OF THIS SEAT. 9 by the template 'for every input the law returns true; each argument reads behind the call as it read before'; 0 by the template 'total and deterministic' (their statements: YtmilljlkcbljpaaTotals.lean).
  GIVEN WITH THE SEED: the statements are not yours to turn. If you find one false, say at which input.
  Laid BY PROGRAM, IN A SANDBOX (cutbox-rows.mjs): the forced cells as the released guide's own fill.sh prints them over the translation 336b3f62e559774c… (all of the seat's roots in one cut). By AI agents, Wed Nov 11 2026. No macro, syntax, notation, axiom, sorry.
-/
import Derived.Test.YtmilljlkcbljpaaChecked
import GoSem.Claim
import GoSem.ClaimJoined
import GoSem.ClaimMapViews
import Derived.JoinedTies
import Derived.KernelRfl
namespace Go.Proofs.Ytmilljlkcbljpaa
/- THE CELL 'sum', in the pinned program and in every row, IS THE sha256 OF THE DUMP (.gsa) THAT YtmilljlkcbljpaaProg.lean LOADS. Nothing in Lean hashes anything: it is a label: what it is worth is what the hold of that sum in a sandbox is worth. -/
noncomputable def Try.pinned : Pinned := { name := "ytmilljlkcbljpaa", sum := "336b3f62e559774cfa33eebe84c570c7224cc5889c1654c8434831aaaf650e92", checked := Try.checked }
namespace Rows
def none {H : Type} : Left H := { results := [], args := [] }

/-- 'gouachelaw06.ColourErrs': WHATEVER THE INPUT: true; the input reads as it did. -/
def colourErrsSpec : ChangeSpec := { name := "colourErrs", fn := fun _ => fun
  | [d1, d2, d3] => { results := [.lit (.bool true)], args := [d1, d2, d3] }
  | _ => none }
def colourErrsRow : OpenClaim := { program := "ytmilljlkcbljpaa", sum := "336b3f62e559774cfa33eebe84c570c7224cc5889c1654c8434831aaaf650e92", func := "gouache/gouachelaw06.ColourErrs", spec := "colourErrs", unfollowed := true, recurses := true, apart := false }
def ColourErrsSaid : Prop := colourErrsRow.holds Try.pinned (OpenSpec.ofChange colourErrsSpec)

/-- ITS FALSE NEIGHBOUR: 'it returns false'. Refute it at one input. -/
def colourErrsWrong : ChangeSpec := { name := "colourErrs", fn := fun _ => fun
  | [d1, d2, d3] => { results := [.lit (.bool false)], args := [d1, d2, d3] }
  | _ => none }
def ColourErrsWrongFalsely : Prop := colourErrsRow.holds Try.pinned (OpenSpec.ofChange colourErrsWrong)

/-- 'gouachelaw06.ColourSimplifies': WHATEVER THE INPUT: true; the input reads as it did. -/
def colourSimplifiesSpec : ChangeSpec := { name := "colourSimplifies", fn := fun _ => fun
  | [d1, d2] => { results := [.lit (.bool true)], args := [d1, d2] }
  | _ => none }
def colourSimplifiesRow : OpenClaim := { program := "ytmilljlkcbljpaa", sum := "336b3f62e559774cfa33eebe84c570c7224cc5889c1654c8434831aaaf650e92", func := "gouache/gouachelaw06.ColourSimplifies", spec := "colourSimplifies", unfollowed := true, recurses := true, apart := false }
def ColourSimplifiesSaid : Prop := colourSimplifiesRow.holds Try.pinned (OpenSpec.ofChange colourSimplifiesSpec)

/-- ITS FALSE NEIGHBOUR: 'it returns false'. Refute it at one input. -/
def colourSimplifiesWrong : ChangeSpec := { name := "colourSimplifies", fn := fun _ => fun
  | [d1, d2] => { results := [.lit (.bool false)], args := [d1, d2] }
  | _ => none }
def ColourSimplifiesWrongFalsely : Prop := colourSimplifiesRow.holds Try.pinned (OpenSpec.ofChange colourSimplifiesWrong)

/-- 'gouachelaw06.ColourTables': WHATEVER THE INPUT: true; the input reads as it did. -/
def colourTablesSpec : ChangeSpec := { name := "colourTables", fn := fun _ => fun
  | [d1, d2, d3] => { results := [.lit (.bool true)], args := [d1, d2, d3] }
  | _ => none }
def colourTablesRow : OpenClaim := { program := "ytmilljlkcbljpaa", sum := "336b3f62e559774cfa33eebe84c570c7224cc5889c1654c8434831aaaf650e92", func := "gouache/gouachelaw06.ColourTables", spec := "colourTables", unfollowed := true, recurses := true, apart := false }
def ColourTablesSaid : Prop := colourTablesRow.holds Try.pinned (OpenSpec.ofChange colourTablesSpec)

/-- ITS FALSE NEIGHBOUR: 'it returns false'. Refute it at one input. -/
def colourTablesWrong : ChangeSpec := { name := "colourTables", fn := fun _ => fun
  | [d1, d2, d3] => { results := [.lit (.bool false)], args := [d1, d2, d3] }
  | _ => none }
def ColourTablesWrongFalsely : Prop := colourTablesRow.holds Try.pinned (OpenSpec.ofChange colourTablesWrong)

/-- 'gouachelaw06.ColourLooks': WHATEVER THE INPUT: true; the input reads as it did. -/
def colourLooksSpec : ChangeSpec := { name := "colourLooks", fn := fun _ => fun
  | [d1, d2, d3] => { results := [.lit (.bool true)], args := [d1, d2, d3] }
  | _ => none }
def colourLooksRow : OpenClaim := { program := "ytmilljlkcbljpaa", sum := "336b3f62e559774cfa33eebe84c570c7224cc5889c1654c8434831aaaf650e92", func := "gouache/gouachelaw06.ColourLooks", spec := "colourLooks", unfollowed := true, recurses := true, apart := false }
def ColourLooksSaid : Prop := colourLooksRow.holds Try.pinned (OpenSpec.ofChange colourLooksSpec)

/-- ITS FALSE NEIGHBOUR: 'it returns false'. Refute it at one input. -/
def colourLooksWrong : ChangeSpec := { name := "colourLooks", fn := fun _ => fun
  | [d1, d2, d3] => { results := [.lit (.bool false)], args := [d1, d2, d3] }
  | _ => none }
def ColourLooksWrongFalsely : Prop := colourLooksRow.holds Try.pinned (OpenSpec.ofChange colourLooksWrong)

/-- 'gouachelaw06.ColourClips': WHATEVER THE INPUT: true; the input reads as it did. -/
def colourClipsSpec : ChangeSpec := { name := "colourClips", fn := fun _ => fun
  | [d] => { results := [.lit (.bool true)], args := [d] }
  | _ => none }
def colourClipsRow : OpenClaim := { program := "ytmilljlkcbljpaa", sum := "336b3f62e559774cfa33eebe84c570c7224cc5889c1654c8434831aaaf650e92", func := "gouache/gouachelaw06.ColourClips", spec := "colourClips", unfollowed := true, recurses := true, apart := false }
def ColourClipsSaid : Prop := colourClipsRow.holds Try.pinned (OpenSpec.ofChange colourClipsSpec)

/-- ITS FALSE NEIGHBOUR: 'it returns false'. Refute it at one input. -/
def colourClipsWrong : ChangeSpec := { name := "colourClips", fn := fun _ => fun
  | [d] => { results := [.lit (.bool false)], args := [d] }
  | _ => none }
def ColourClipsWrongFalsely : Prop := colourClipsRow.holds Try.pinned (OpenSpec.ofChange colourClipsWrong)

/-- 'gouachelaw06.ColourBetween': WHATEVER THE INPUT: true; the input reads as it did. -/
def colourBetweenSpec : ChangeSpec := { name := "colourBetween", fn := fun _ => fun
  | [d1, d2, d3] => { results := [.lit (.bool true)], args := [d1, d2, d3] }
  | _ => none }
def colourBetweenRow : OpenClaim := { program := "ytmilljlkcbljpaa", sum := "336b3f62e559774cfa33eebe84c570c7224cc5889c1654c8434831aaaf650e92", func := "gouache/gouachelaw06.ColourBetween", spec := "colourBetween", unfollowed := true, recurses := true, apart := false }
def ColourBetweenSaid : Prop := colourBetweenRow.holds Try.pinned (OpenSpec.ofChange colourBetweenSpec)

/-- ITS FALSE NEIGHBOUR: 'it returns false'. Refute it at one input. -/
def colourBetweenWrong : ChangeSpec := { name := "colourBetween", fn := fun _ => fun
  | [d1, d2, d3] => { results := [.lit (.bool false)], args := [d1, d2, d3] }
  | _ => none }
def ColourBetweenWrongFalsely : Prop := colourBetweenRow.holds Try.pinned (OpenSpec.ofChange colourBetweenWrong)

/-- 'gouachelaw06.ColourSpaces': WHATEVER THE INPUT: true; the input reads as it did. -/
def colourSpacesSpec : ChangeSpec := { name := "colourSpaces", fn := fun _ => fun
  | [d1, d2, d3] => { results := [.lit (.bool true)], args := [d1, d2, d3] }
  | _ => none }
def colourSpacesRow : OpenClaim := { program := "ytmilljlkcbljpaa", sum := "336b3f62e559774cfa33eebe84c570c7224cc5889c1654c8434831aaaf650e92", func := "gouache/gouachelaw06.ColourSpaces", spec := "colourSpaces", unfollowed := true, recurses := true, apart := false }
def ColourSpacesSaid : Prop := colourSpacesRow.holds Try.pinned (OpenSpec.ofChange colourSpacesSpec)

/-- ITS FALSE NEIGHBOUR: 'it returns false'. Refute it at one input. -/
def colourSpacesWrong : ChangeSpec := { name := "colourSpaces", fn := fun _ => fun
  | [d1, d2, d3] => { results := [.lit (.bool false)], args := [d1, d2, d3] }
  | _ => none }
def ColourSpacesWrongFalsely : Prop := colourSpacesRow.holds Try.pinned (OpenSpec.ofChange colourSpacesWrong)

/-- 'gouachelaw06.ColourRound': WHATEVER THE INPUT: true; the input reads as it did. -/
def colourRoundSpec : ChangeSpec := { name := "colourRound", fn := fun _ => fun
  | [d1, d2, d3] => { results := [.lit (.bool true)], args := [d1, d2, d3] }
  | _ => none }
def colourRoundRow : OpenClaim := { program := "ytmilljlkcbljpaa", sum := "336b3f62e559774cfa33eebe84c570c7224cc5889c1654c8434831aaaf650e92", func := "gouache/gouachelaw06.ColourRound", spec := "colourRound", unfollowed := true, recurses := true, apart := false }
def ColourRoundSaid : Prop := colourRoundRow.holds Try.pinned (OpenSpec.ofChange colourRoundSpec)

/-- ITS FALSE NEIGHBOUR: 'it returns false'. Refute it at one input. -/
def colourRoundWrong : ChangeSpec := { name := "colourRound", fn := fun _ => fun
  | [d1, d2, d3] => { results := [.lit (.bool false)], args := [d1, d2, d3] }
  | _ => none }
def ColourRoundWrongFalsely : Prop := colourRoundRow.holds Try.pinned (OpenSpec.ofChange colourRoundWrong)

/-- 'gouachelaw06.ColourPixels': WHATEVER THE INPUT: true; the input reads as it did. -/
def colourPixelsSpec : ChangeSpec := { name := "colourPixels", fn := fun _ => fun
  | [d1, d2, d3] => { results := [.lit (.bool true)], args := [d1, d2, d3] }
  | _ => none }
def colourPixelsRow : OpenClaim := { program := "ytmilljlkcbljpaa", sum := "336b3f62e559774cfa33eebe84c570c7224cc5889c1654c8434831aaaf650e92", func := "gouache/gouachelaw06.ColourPixels", spec := "colourPixels", unfollowed := true, recurses := true, apart := false }
def ColourPixelsSaid : Prop := colourPixelsRow.holds Try.pinned (OpenSpec.ofChange colourPixelsSpec)

/-- ITS FALSE NEIGHBOUR: 'it returns false'. Refute it at one input. -/
def colourPixelsWrong : ChangeSpec := { name := "colourPixels", fn := fun _ => fun
  | [d1, d2, d3] => { results := [.lit (.bool false)], args := [d1, d2, d3] }
  | _ => none }
def ColourPixelsWrongFalsely : Prop := colourPixelsRow.holds Try.pinned (OpenSpec.ofChange colourPixelsWrong)

/- THE SECOND FORM. 'bulk': how many values and letters a reading holds, each counted each time it is reached (what is shared counts as often as it is met; a slice's spare places count too). A statement '..UptoSaid' is the law's where the arguments, and the package variables that the reading takes, are together of bulk at most 1048576: NARROWER than '..Said'. Prove '..Said' where nothing that the law and all that it calls make is longer than what came in: it says more and counts as full. Else prove '..UptoSaid'. A law counts once. -/
mutual
def uptoBulk {H : Type} : DataW H → Nat
  | .lit (.string bytes) => bytes.length + 1
  | .lit _ => 1
  | .nil => 1
  | .ptr d => uptoBulk d + 1
  | .slice elems spare => uptoBulkAll elems + uptoBulkAll spare + 1
  | .agg parts => uptoBulkAll parts + 1
  | .iface _ d => uptoBulk d + 1
  | .map entries => uptoBulkEntries entries + 1
  | .held _ => 1
def uptoBulkAll {H : Type} : List (DataW H) → Nat
  | [] => 0
  | d :: r => uptoBulk d + uptoBulkAll r
def uptoBulkEntries {H : Type} : List (Lit × DataW H) → Nat
  | [] => 0
  | x :: r => uptoBulkEntry x + uptoBulkEntries r
def uptoBulkEntry {H : Type} : Lit × DataW H → Nat
  | (.string bytes, d) => bytes.length + uptoBulk d + 1
  | (_, d) => uptoBulk d + 1
 end
def uptoSmall : (H : Type) → List (DataW H) → Bool := fun _ ds => decide (uptoBulkAll ds ≤ 1048576)
def OpenSpec.upto (s : _root_.Go.ChangeSpec) : _root_.Go.OpenSpec := { _root_.Go.OpenSpec.ofChange s with cond := some uptoSmall }

/-- 'gouachelaw06.ColourErrs', WHERE WHAT IT READS IS OF BULK AT MOST 1048576: true; the input reads as it did. -/
def colourErrsUptoRow : OpenClaim := { program := "ytmilljlkcbljpaa", sum := "336b3f62e559774cfa33eebe84c570c7224cc5889c1654c8434831aaaf650e92", func := "gouache/gouachelaw06.ColourErrs", spec := "colourErrs", unfollowed := true, recurses := true, apart := false, narrowed := true }
def ColourErrsUptoSaid : Prop := colourErrsUptoRow.holds Try.pinned (OpenSpec.upto colourErrsSpec)

/-- 'gouachelaw06.ColourSimplifies', WHERE WHAT IT READS IS OF BULK AT MOST 1048576: true; the input reads as it did. -/
def colourSimplifiesUptoRow : OpenClaim := { program := "ytmilljlkcbljpaa", sum := "336b3f62e559774cfa33eebe84c570c7224cc5889c1654c8434831aaaf650e92", func := "gouache/gouachelaw06.ColourSimplifies", spec := "colourSimplifies", unfollowed := true, recurses := true, apart := false, narrowed := true }
def ColourSimplifiesUptoSaid : Prop := colourSimplifiesUptoRow.holds Try.pinned (OpenSpec.upto colourSimplifiesSpec)

/-- 'gouachelaw06.ColourTables', WHERE WHAT IT READS IS OF BULK AT MOST 1048576: true; the input reads as it did. -/
def colourTablesUptoRow : OpenClaim := { program := "ytmilljlkcbljpaa", sum := "336b3f62e559774cfa33eebe84c570c7224cc5889c1654c8434831aaaf650e92", func := "gouache/gouachelaw06.ColourTables", spec := "colourTables", unfollowed := true, recurses := true, apart := false, narrowed := true }
def ColourTablesUptoSaid : Prop := colourTablesUptoRow.holds Try.pinned (OpenSpec.upto colourTablesSpec)

/-- 'gouachelaw06.ColourLooks', WHERE WHAT IT READS IS OF BULK AT MOST 1048576: true; the input reads as it did. -/
def colourLooksUptoRow : OpenClaim := { program := "ytmilljlkcbljpaa", sum := "336b3f62e559774cfa33eebe84c570c7224cc5889c1654c8434831aaaf650e92", func := "gouache/gouachelaw06.ColourLooks", spec := "colourLooks", unfollowed := true, recurses := true, apart := false, narrowed := true }
def ColourLooksUptoSaid : Prop := colourLooksUptoRow.holds Try.pinned (OpenSpec.upto colourLooksSpec)

/-- 'gouachelaw06.ColourClips', WHERE WHAT IT READS IS OF BULK AT MOST 1048576: true; the input reads as it did. -/
def colourClipsUptoRow : OpenClaim := { program := "ytmilljlkcbljpaa", sum := "336b3f62e559774cfa33eebe84c570c7224cc5889c1654c8434831aaaf650e92", func := "gouache/gouachelaw06.ColourClips", spec := "colourClips", unfollowed := true, recurses := true, apart := false, narrowed := true }
def ColourClipsUptoSaid : Prop := colourClipsUptoRow.holds Try.pinned (OpenSpec.upto colourClipsSpec)

/-- 'gouachelaw06.ColourBetween', WHERE WHAT IT READS IS OF BULK AT MOST 1048576: true; the input reads as it did. -/
def colourBetweenUptoRow : OpenClaim := { program := "ytmilljlkcbljpaa", sum := "336b3f62e559774cfa33eebe84c570c7224cc5889c1654c8434831aaaf650e92", func := "gouache/gouachelaw06.ColourBetween", spec := "colourBetween", unfollowed := true, recurses := true, apart := false, narrowed := true }
def ColourBetweenUptoSaid : Prop := colourBetweenUptoRow.holds Try.pinned (OpenSpec.upto colourBetweenSpec)

/-- 'gouachelaw06.ColourSpaces', WHERE WHAT IT READS IS OF BULK AT MOST 1048576: true; the input reads as it did. -/
def colourSpacesUptoRow : OpenClaim := { program := "ytmilljlkcbljpaa", sum := "336b3f62e559774cfa33eebe84c570c7224cc5889c1654c8434831aaaf650e92", func := "gouache/gouachelaw06.ColourSpaces", spec := "colourSpaces", unfollowed := true, recurses := true, apart := false, narrowed := true }
def ColourSpacesUptoSaid : Prop := colourSpacesUptoRow.holds Try.pinned (OpenSpec.upto colourSpacesSpec)

/-- 'gouachelaw06.ColourRound', WHERE WHAT IT READS IS OF BULK AT MOST 1048576: true; the input reads as it did. -/
def colourRoundUptoRow : OpenClaim := { program := "ytmilljlkcbljpaa", sum := "336b3f62e559774cfa33eebe84c570c7224cc5889c1654c8434831aaaf650e92", func := "gouache/gouachelaw06.ColourRound", spec := "colourRound", unfollowed := true, recurses := true, apart := false, narrowed := true }
def ColourRoundUptoSaid : Prop := colourRoundUptoRow.holds Try.pinned (OpenSpec.upto colourRoundSpec)

/-- 'gouachelaw06.ColourPixels', WHERE WHAT IT READS IS OF BULK AT MOST 1048576: true; the input reads as it did. -/
def colourPixelsUptoRow : OpenClaim := { program := "ytmilljlkcbljpaa", sum := "336b3f62e559774cfa33eebe84c570c7224cc5889c1654c8434831aaaf650e92", func := "gouache/gouachelaw06.ColourPixels", spec := "colourPixels", unfollowed := true, recurses := true, apart := false, narrowed := true }
def ColourPixelsUptoSaid : Prop := colourPixelsUptoRow.holds Try.pinned (OpenSpec.upto colourPixelsSpec)

end Rows
end Go.Proofs.Ytmilljlkcbljpaa
