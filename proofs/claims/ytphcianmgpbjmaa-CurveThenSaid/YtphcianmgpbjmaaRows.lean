/-
  No cell of these rows narrows 'for every input' (looked for: loops, veiled, ifaces, maps, wideKeys, modest, calm, conditions, laid).
  DERIVED. THE GIVEN ROWS OF THIS SEAT. 12 by the template 'for every input the law returns true; each argument reads behind the call as it read before'; 0 by the template 'total and deterministic' (their statements: YtphcianmgpbjmaaTotals.lean).
  GIVEN WITH THE SEED: the statements are not yours to turn. If you find one false, say at which input.
  Laid BY PROGRAM, IN A SANDBOX (cutbox-rows.mjs): the forced cells as the released guide's own fill.sh prints them over the translation 002a5965ee990fa3… (all of the seat's roots in one cut). By AI agents, Wed Nov 11 2026. No macro, syntax, notation, axiom, sorry.
-/
import Derived.Test.YtphcianmgpbjmaaChecked
import GoSem.Claim
import GoSem.ClaimJoined
import GoSem.ClaimMapViews
import Derived.JoinedTies
import Derived.KernelRfl
namespace Go.Proofs.Ytphcianmgpbjmaa
/- THE CELL 'sum', in the pinned program and in every row, IS THE sha256 OF THE DUMP (.gsa) THAT YtphcianmgpbjmaaProg.lean LOADS. Nothing in Lean hashes anything: it is a label: what it is worth is what the hold of that sum in a sandbox is worth. -/
noncomputable def Try.pinned : Pinned := { name := "ytphcianmgpbjmaa", sum := "002a5965ee990fa32090e252fa825fb93300b3fcb71c5208a89686bca1adefae", checked := Try.checked }
namespace Rows
def none {H : Type} : Left H := { results := [], args := [] }

/-- 'gouachelaw05.CurveAt': WHATEVER THE INPUT: true; the input reads as it did. -/
def curveAtSpec : ChangeSpec := { name := "curveAt", fn := fun _ => fun
  | [d1, d2, d3] => { results := [.lit (.bool true)], args := [d1, d2, d3] }
  | _ => none }
def curveAtRow : OpenClaim := { program := "ytphcianmgpbjmaa", sum := "002a5965ee990fa32090e252fa825fb93300b3fcb71c5208a89686bca1adefae", func := "gouache/gouachelaw05.CurveAt", spec := "curveAt", inPlace := ["math/bits.Add64"], unfollowed := true, recurses := true, apart := false }
def CurveAtSaid : Prop := curveAtRow.holds Try.pinned (OpenSpec.ofChange curveAtSpec)

/-- ITS FALSE NEIGHBOUR: 'it returns false'. Refute it at one input. -/
def curveAtWrong : ChangeSpec := { name := "curveAt", fn := fun _ => fun
  | [d1, d2, d3] => { results := [.lit (.bool false)], args := [d1, d2, d3] }
  | _ => none }
def CurveAtWrongFalsely : Prop := curveAtRow.holds Try.pinned (OpenSpec.ofChange curveAtWrong)

/-- 'gouachelaw05.CurveMonotone': WHATEVER THE INPUT: true; the input reads as it did. -/
def curveMonotoneSpec : ChangeSpec := { name := "curveMonotone", fn := fun _ => fun
  | [d1, d2, d3] => { results := [.lit (.bool true)], args := [d1, d2, d3] }
  | _ => none }
def curveMonotoneRow : OpenClaim := { program := "ytphcianmgpbjmaa", sum := "002a5965ee990fa32090e252fa825fb93300b3fcb71c5208a89686bca1adefae", func := "gouache/gouachelaw05.CurveMonotone", spec := "curveMonotone", inPlace := ["math/bits.Add64"], unfollowed := true, recurses := true, apart := false }
def CurveMonotoneSaid : Prop := curveMonotoneRow.holds Try.pinned (OpenSpec.ofChange curveMonotoneSpec)

/-- ITS FALSE NEIGHBOUR: 'it returns false'. Refute it at one input. -/
def curveMonotoneWrong : ChangeSpec := { name := "curveMonotone", fn := fun _ => fun
  | [d1, d2, d3] => { results := [.lit (.bool false)], args := [d1, d2, d3] }
  | _ => none }
def CurveMonotoneWrongFalsely : Prop := curveMonotoneRow.holds Try.pinned (OpenSpec.ofChange curveMonotoneWrong)

/-- 'gouachelaw05.CurveLine': WHATEVER THE INPUT: true; the input reads as it did. -/
def curveLineSpec : ChangeSpec := { name := "curveLine", fn := fun _ => fun
  | [d1, d2] => { results := [.lit (.bool true)], args := [d1, d2] }
  | _ => none }
def curveLineRow : OpenClaim := { program := "ytphcianmgpbjmaa", sum := "002a5965ee990fa32090e252fa825fb93300b3fcb71c5208a89686bca1adefae", func := "gouache/gouachelaw05.CurveLine", spec := "curveLine", inPlace := ["math/bits.Add64"], unfollowed := true, recurses := true, apart := false }
def CurveLineSaid : Prop := curveLineRow.holds Try.pinned (OpenSpec.ofChange curveLineSpec)

/-- ITS FALSE NEIGHBOUR: 'it returns false'. Refute it at one input. -/
def curveLineWrong : ChangeSpec := { name := "curveLine", fn := fun _ => fun
  | [d1, d2] => { results := [.lit (.bool false)], args := [d1, d2] }
  | _ => none }
def CurveLineWrongFalsely : Prop := curveLineRow.holds Try.pinned (OpenSpec.ofChange curveLineWrong)

/-- 'gouachelaw05.CurveSolve': WHATEVER THE INPUT: true; the input reads as it did. -/
def curveSolveSpec : ChangeSpec := { name := "curveSolve", fn := fun _ => fun
  | [d1, d2, d3] => { results := [.lit (.bool true)], args := [d1, d2, d3] }
  | _ => none }
def curveSolveRow : OpenClaim := { program := "ytphcianmgpbjmaa", sum := "002a5965ee990fa32090e252fa825fb93300b3fcb71c5208a89686bca1adefae", func := "gouache/gouachelaw05.CurveSolve", spec := "curveSolve", inPlace := ["math/bits.Add64"], unfollowed := true, recurses := true, apart := false }
def CurveSolveSaid : Prop := curveSolveRow.holds Try.pinned (OpenSpec.ofChange curveSolveSpec)

/-- ITS FALSE NEIGHBOUR: 'it returns false'. Refute it at one input. -/
def curveSolveWrong : ChangeSpec := { name := "curveSolve", fn := fun _ => fun
  | [d1, d2, d3] => { results := [.lit (.bool false)], args := [d1, d2, d3] }
  | _ => none }
def CurveSolveWrongFalsely : Prop := curveSolveRow.holds Try.pinned (OpenSpec.ofChange curveSolveWrong)

/-- 'gouachelaw05.CurveGalois': WHATEVER THE INPUT: true; the input reads as it did. -/
def curveGaloisSpec : ChangeSpec := { name := "curveGalois", fn := fun _ => fun
  | [d1, d2, d3] => { results := [.lit (.bool true)], args := [d1, d2, d3] }
  | _ => none }
def curveGaloisRow : OpenClaim := { program := "ytphcianmgpbjmaa", sum := "002a5965ee990fa32090e252fa825fb93300b3fcb71c5208a89686bca1adefae", func := "gouache/gouachelaw05.CurveGalois", spec := "curveGalois", inPlace := ["math/bits.Add64"], unfollowed := true, recurses := true, apart := false }
def CurveGaloisSaid : Prop := curveGaloisRow.holds Try.pinned (OpenSpec.ofChange curveGaloisSpec)

/-- ITS FALSE NEIGHBOUR: 'it returns false'. Refute it at one input. -/
def curveGaloisWrong : ChangeSpec := { name := "curveGalois", fn := fun _ => fun
  | [d1, d2, d3] => { results := [.lit (.bool false)], args := [d1, d2, d3] }
  | _ => none }
def CurveGaloisWrongFalsely : Prop := curveGaloisRow.holds Try.pinned (OpenSpec.ofChange curveGaloisWrong)

/-- 'gouachelaw05.CurveGamma': WHATEVER THE INPUT: true; the input reads as it did. -/
def curveGammaSpec : ChangeSpec := { name := "curveGamma", fn := fun _ => fun
  | [d1, d2, d3] => { results := [.lit (.bool true)], args := [d1, d2, d3] }
  | _ => none }
def curveGammaRow : OpenClaim := { program := "ytphcianmgpbjmaa", sum := "002a5965ee990fa32090e252fa825fb93300b3fcb71c5208a89686bca1adefae", func := "gouache/gouachelaw05.CurveGamma", spec := "curveGamma", inPlace := ["math/bits.Add64"], unfollowed := true, recurses := true, apart := false }
def CurveGammaSaid : Prop := curveGammaRow.holds Try.pinned (OpenSpec.ofChange curveGammaSpec)

/-- ITS FALSE NEIGHBOUR: 'it returns false'. Refute it at one input. -/
def curveGammaWrong : ChangeSpec := { name := "curveGamma", fn := fun _ => fun
  | [d1, d2, d3] => { results := [.lit (.bool false)], args := [d1, d2, d3] }
  | _ => none }
def CurveGammaWrongFalsely : Prop := curveGammaRow.holds Try.pinned (OpenSpec.ofChange curveGammaWrong)

/-- 'gouachelaw05.CurvePowers': WHATEVER THE INPUT: true; the input reads as it did. -/
def curvePowersSpec : ChangeSpec := { name := "curvePowers", fn := fun _ => fun
  | [d1, d2, d3] => { results := [.lit (.bool true)], args := [d1, d2, d3] }
  | _ => none }
def curvePowersRow : OpenClaim := { program := "ytphcianmgpbjmaa", sum := "002a5965ee990fa32090e252fa825fb93300b3fcb71c5208a89686bca1adefae", func := "gouache/gouachelaw05.CurvePowers", spec := "curvePowers", inPlace := ["math/bits.Add64"], unfollowed := true, recurses := true, apart := false }
def CurvePowersSaid : Prop := curvePowersRow.holds Try.pinned (OpenSpec.ofChange curvePowersSpec)

/-- ITS FALSE NEIGHBOUR: 'it returns false'. Refute it at one input. -/
def curvePowersWrong : ChangeSpec := { name := "curvePowers", fn := fun _ => fun
  | [d1, d2, d3] => { results := [.lit (.bool false)], args := [d1, d2, d3] }
  | _ => none }
def CurvePowersWrongFalsely : Prop := curvePowersRow.holds Try.pinned (OpenSpec.ofChange curvePowersWrong)

/-- 'gouachelaw05.CurveThen': WHATEVER THE INPUT: true; the input reads as it did. -/
def curveThenSpec : ChangeSpec := { name := "curveThen", fn := fun _ => fun
  | [d1, d2, d3] => { results := [.lit (.bool true)], args := [d1, d2, d3] }
  | _ => none }
def curveThenRow : OpenClaim := { program := "ytphcianmgpbjmaa", sum := "002a5965ee990fa32090e252fa825fb93300b3fcb71c5208a89686bca1adefae", func := "gouache/gouachelaw05.CurveThen", spec := "curveThen", inPlace := ["math/bits.Add64"], unfollowed := true, recurses := true, apart := false }
def CurveThenSaid : Prop := curveThenRow.holds Try.pinned (OpenSpec.ofChange curveThenSpec)

/-- ITS FALSE NEIGHBOUR: 'it returns false'. Refute it at one input. -/
def curveThenWrong : ChangeSpec := { name := "curveThen", fn := fun _ => fun
  | [d1, d2, d3] => { results := [.lit (.bool false)], args := [d1, d2, d3] }
  | _ => none }
def CurveThenWrongFalsely : Prop := curveThenRow.holds Try.pinned (OpenSpec.ofChange curveThenWrong)

/-- 'gouachelaw05.CurveInverse': WHATEVER THE INPUT: true; the input reads as it did. -/
def curveInverseSpec : ChangeSpec := { name := "curveInverse", fn := fun _ => fun
  | [d1, d2, d3] => { results := [.lit (.bool true)], args := [d1, d2, d3] }
  | _ => none }
def curveInverseRow : OpenClaim := { program := "ytphcianmgpbjmaa", sum := "002a5965ee990fa32090e252fa825fb93300b3fcb71c5208a89686bca1adefae", func := "gouache/gouachelaw05.CurveInverse", spec := "curveInverse", inPlace := ["math/bits.Add64"], unfollowed := true, recurses := true, apart := false }
def CurveInverseSaid : Prop := curveInverseRow.holds Try.pinned (OpenSpec.ofChange curveInverseSpec)

/-- ITS FALSE NEIGHBOUR: 'it returns false'. Refute it at one input. -/
def curveInverseWrong : ChangeSpec := { name := "curveInverse", fn := fun _ => fun
  | [d1, d2, d3] => { results := [.lit (.bool false)], args := [d1, d2, d3] }
  | _ => none }
def CurveInverseWrongFalsely : Prop := curveInverseRow.holds Try.pinned (OpenSpec.ofChange curveInverseWrong)

/-- 'gouachelaw05.CurveRoundTrip': WHATEVER THE INPUT: true; the input reads as it did. -/
def curveRoundTripSpec : ChangeSpec := { name := "curveRoundTrip", fn := fun _ => fun
  | [d1, d2] => { results := [.lit (.bool true)], args := [d1, d2] }
  | _ => none }
def curveRoundTripRow : OpenClaim := { program := "ytphcianmgpbjmaa", sum := "002a5965ee990fa32090e252fa825fb93300b3fcb71c5208a89686bca1adefae", func := "gouache/gouachelaw05.CurveRoundTrip", spec := "curveRoundTrip", inPlace := ["math/bits.Add64"], unfollowed := true, recurses := true, apart := false }
def CurveRoundTripSaid : Prop := curveRoundTripRow.holds Try.pinned (OpenSpec.ofChange curveRoundTripSpec)

/-- ITS FALSE NEIGHBOUR: 'it returns false'. Refute it at one input. -/
def curveRoundTripWrong : ChangeSpec := { name := "curveRoundTrip", fn := fun _ => fun
  | [d1, d2] => { results := [.lit (.bool false)], args := [d1, d2] }
  | _ => none }
def CurveRoundTripWrongFalsely : Prop := curveRoundTripRow.holds Try.pinned (OpenSpec.ofChange curveRoundTripWrong)

/-- 'gouachelaw05.CurveError': WHATEVER THE INPUT: true; the input reads as it did. -/
def curveErrorSpec : ChangeSpec := { name := "curveError", fn := fun _ => fun
  | [d1, d2] => { results := [.lit (.bool true)], args := [d1, d2] }
  | _ => none }
def curveErrorRow : OpenClaim := { program := "ytphcianmgpbjmaa", sum := "002a5965ee990fa32090e252fa825fb93300b3fcb71c5208a89686bca1adefae", func := "gouache/gouachelaw05.CurveError", spec := "curveError", inPlace := ["math/bits.Add64"], unfollowed := true, recurses := true, apart := false }
def CurveErrorSaid : Prop := curveErrorRow.holds Try.pinned (OpenSpec.ofChange curveErrorSpec)

/-- ITS FALSE NEIGHBOUR: 'it returns false'. Refute it at one input. -/
def curveErrorWrong : ChangeSpec := { name := "curveError", fn := fun _ => fun
  | [d1, d2] => { results := [.lit (.bool false)], args := [d1, d2] }
  | _ => none }
def CurveErrorWrongFalsely : Prop := curveErrorRow.holds Try.pinned (OpenSpec.ofChange curveErrorWrong)

/-- 'gouachelaw05.CurveBound': WHATEVER THE INPUT: true; the input reads as it did. -/
def curveBoundSpec : ChangeSpec := { name := "curveBound", fn := fun _ => fun
  | [d1, d2] => { results := [.lit (.bool true)], args := [d1, d2] }
  | _ => none }
def curveBoundRow : OpenClaim := { program := "ytphcianmgpbjmaa", sum := "002a5965ee990fa32090e252fa825fb93300b3fcb71c5208a89686bca1adefae", func := "gouache/gouachelaw05.CurveBound", spec := "curveBound", inPlace := ["math/bits.Add64"], unfollowed := true, recurses := true, apart := false }
def CurveBoundSaid : Prop := curveBoundRow.holds Try.pinned (OpenSpec.ofChange curveBoundSpec)

/-- ITS FALSE NEIGHBOUR: 'it returns false'. Refute it at one input. -/
def curveBoundWrong : ChangeSpec := { name := "curveBound", fn := fun _ => fun
  | [d1, d2] => { results := [.lit (.bool false)], args := [d1, d2] }
  | _ => none }
def CurveBoundWrongFalsely : Prop := curveBoundRow.holds Try.pinned (OpenSpec.ofChange curveBoundWrong)

/- THE SECOND FORM. 'bulk': how many values and letters a reading holds, each counted each time it is reached (what is shared counts as often as it is met; a slice's spare places count too). A statement '..UptoSaid' is the law's where the arguments, and the package variables that the reading takes, are together of bulk at most 1048576: NARROWER than '..Said'. Prove '..Said' where nothing that the law and all that it calls make is longer than what came in: it says more and counts as full. Else prove '..UptoSaid'. A law counts once. -/
mutual
def uptoBulk {H : Type} : DataW H → Nat
  | .lit (.string bytes) => bytes.length + 1
  | .lit _ => 1
  | .nil => 1
  | .ptr d => uptoBulk d + 1
  | .slice elems spare => uptoBulkAll elems + uptoBulkAll spare + 1
  | .agg parts => uptoBulkAll parts + 1
  | .iface _ d => uptoBulk d + 1
  | .map entries => uptoBulkEntries entries + 1
  | .held _ => 1
def uptoBulkAll {H : Type} : List (DataW H) → Nat
  | [] => 0
  | d :: r => uptoBulk d + uptoBulkAll r
def uptoBulkEntries {H : Type} : List (Lit × DataW H) → Nat
  | [] => 0
  | x :: r => uptoBulkEntry x + uptoBulkEntries r
def uptoBulkEntry {H : Type} : Lit × DataW H → Nat
  | (.string bytes, d) => bytes.length + uptoBulk d + 1
  | (_, d) => uptoBulk d + 1
 end
def uptoSmall : (H : Type) → List (DataW H) → Bool := fun _ ds => decide (uptoBulkAll ds ≤ 1048576)
def OpenSpec.upto (s : _root_.Go.ChangeSpec) : _root_.Go.OpenSpec := { _root_.Go.OpenSpec.ofChange s with cond := some uptoSmall }

/-- 'gouachelaw05.CurveAt', WHERE WHAT IT READS IS OF BULK AT MOST 1048576: true; the input reads as it did. -/
def curveAtUptoRow : OpenClaim := { program := "ytphcianmgpbjmaa", sum := "002a5965ee990fa32090e252fa825fb93300b3fcb71c5208a89686bca1adefae", func := "gouache/gouachelaw05.CurveAt", spec := "curveAt", inPlace := ["math/bits.Add64"], unfollowed := true, recurses := true, apart := false, narrowed := true }
def CurveAtUptoSaid : Prop := curveAtUptoRow.holds Try.pinned (OpenSpec.upto curveAtSpec)

/-- 'gouachelaw05.CurveMonotone', WHERE WHAT IT READS IS OF BULK AT MOST 1048576: true; the input reads as it did. -/
def curveMonotoneUptoRow : OpenClaim := { program := "ytphcianmgpbjmaa", sum := "002a5965ee990fa32090e252fa825fb93300b3fcb71c5208a89686bca1adefae", func := "gouache/gouachelaw05.CurveMonotone", spec := "curveMonotone", inPlace := ["math/bits.Add64"], unfollowed := true, recurses := true, apart := false, narrowed := true }
def CurveMonotoneUptoSaid : Prop := curveMonotoneUptoRow.holds Try.pinned (OpenSpec.upto curveMonotoneSpec)

/-- 'gouachelaw05.CurveLine', WHERE WHAT IT READS IS OF BULK AT MOST 1048576: true; the input reads as it did. -/
def curveLineUptoRow : OpenClaim := { program := "ytphcianmgpbjmaa", sum := "002a5965ee990fa32090e252fa825fb93300b3fcb71c5208a89686bca1adefae", func := "gouache/gouachelaw05.CurveLine", spec := "curveLine", inPlace := ["math/bits.Add64"], unfollowed := true, recurses := true, apart := false, narrowed := true }
def CurveLineUptoSaid : Prop := curveLineUptoRow.holds Try.pinned (OpenSpec.upto curveLineSpec)

/-- 'gouachelaw05.CurveSolve', WHERE WHAT IT READS IS OF BULK AT MOST 1048576: true; the input reads as it did. -/
def curveSolveUptoRow : OpenClaim := { program := "ytphcianmgpbjmaa", sum := "002a5965ee990fa32090e252fa825fb93300b3fcb71c5208a89686bca1adefae", func := "gouache/gouachelaw05.CurveSolve", spec := "curveSolve", inPlace := ["math/bits.Add64"], unfollowed := true, recurses := true, apart := false, narrowed := true }
def CurveSolveUptoSaid : Prop := curveSolveUptoRow.holds Try.pinned (OpenSpec.upto curveSolveSpec)

/-- 'gouachelaw05.CurveGalois', WHERE WHAT IT READS IS OF BULK AT MOST 1048576: true; the input reads as it did. -/
def curveGaloisUptoRow : OpenClaim := { program := "ytphcianmgpbjmaa", sum := "002a5965ee990fa32090e252fa825fb93300b3fcb71c5208a89686bca1adefae", func := "gouache/gouachelaw05.CurveGalois", spec := "curveGalois", inPlace := ["math/bits.Add64"], unfollowed := true, recurses := true, apart := false, narrowed := true }
def CurveGaloisUptoSaid : Prop := curveGaloisUptoRow.holds Try.pinned (OpenSpec.upto curveGaloisSpec)

/-- 'gouachelaw05.CurveGamma', WHERE WHAT IT READS IS OF BULK AT MOST 1048576: true; the input reads as it did. -/
def curveGammaUptoRow : OpenClaim := { program := "ytphcianmgpbjmaa", sum := "002a5965ee990fa32090e252fa825fb93300b3fcb71c5208a89686bca1adefae", func := "gouache/gouachelaw05.CurveGamma", spec := "curveGamma", inPlace := ["math/bits.Add64"], unfollowed := true, recurses := true, apart := false, narrowed := true }
def CurveGammaUptoSaid : Prop := curveGammaUptoRow.holds Try.pinned (OpenSpec.upto curveGammaSpec)

/-- 'gouachelaw05.CurvePowers', WHERE WHAT IT READS IS OF BULK AT MOST 1048576: true; the input reads as it did. -/
def curvePowersUptoRow : OpenClaim := { program := "ytphcianmgpbjmaa", sum := "002a5965ee990fa32090e252fa825fb93300b3fcb71c5208a89686bca1adefae", func := "gouache/gouachelaw05.CurvePowers", spec := "curvePowers", inPlace := ["math/bits.Add64"], unfollowed := true, recurses := true, apart := false, narrowed := true }
def CurvePowersUptoSaid : Prop := curvePowersUptoRow.holds Try.pinned (OpenSpec.upto curvePowersSpec)

/-- 'gouachelaw05.CurveThen', WHERE WHAT IT READS IS OF BULK AT MOST 1048576: true; the input reads as it did. -/
def curveThenUptoRow : OpenClaim := { program := "ytphcianmgpbjmaa", sum := "002a5965ee990fa32090e252fa825fb93300b3fcb71c5208a89686bca1adefae", func := "gouache/gouachelaw05.CurveThen", spec := "curveThen", inPlace := ["math/bits.Add64"], unfollowed := true, recurses := true, apart := false, narrowed := true }
def CurveThenUptoSaid : Prop := curveThenUptoRow.holds Try.pinned (OpenSpec.upto curveThenSpec)

/-- 'gouachelaw05.CurveInverse', WHERE WHAT IT READS IS OF BULK AT MOST 1048576: true; the input reads as it did. -/
def curveInverseUptoRow : OpenClaim := { program := "ytphcianmgpbjmaa", sum := "002a5965ee990fa32090e252fa825fb93300b3fcb71c5208a89686bca1adefae", func := "gouache/gouachelaw05.CurveInverse", spec := "curveInverse", inPlace := ["math/bits.Add64"], unfollowed := true, recurses := true, apart := false, narrowed := true }
def CurveInverseUptoSaid : Prop := curveInverseUptoRow.holds Try.pinned (OpenSpec.upto curveInverseSpec)

/-- 'gouachelaw05.CurveRoundTrip', WHERE WHAT IT READS IS OF BULK AT MOST 1048576: true; the input reads as it did. -/
def curveRoundTripUptoRow : OpenClaim := { program := "ytphcianmgpbjmaa", sum := "002a5965ee990fa32090e252fa825fb93300b3fcb71c5208a89686bca1adefae", func := "gouache/gouachelaw05.CurveRoundTrip", spec := "curveRoundTrip", inPlace := ["math/bits.Add64"], unfollowed := true, recurses := true, apart := false, narrowed := true }
def CurveRoundTripUptoSaid : Prop := curveRoundTripUptoRow.holds Try.pinned (OpenSpec.upto curveRoundTripSpec)

/-- 'gouachelaw05.CurveError', WHERE WHAT IT READS IS OF BULK AT MOST 1048576: true; the input reads as it did. -/
def curveErrorUptoRow : OpenClaim := { program := "ytphcianmgpbjmaa", sum := "002a5965ee990fa32090e252fa825fb93300b3fcb71c5208a89686bca1adefae", func := "gouache/gouachelaw05.CurveError", spec := "curveError", inPlace := ["math/bits.Add64"], unfollowed := true, recurses := true, apart := false, narrowed := true }
def CurveErrorUptoSaid : Prop := curveErrorUptoRow.holds Try.pinned (OpenSpec.upto curveErrorSpec)

/-- 'gouachelaw05.CurveBound', WHERE WHAT IT READS IS OF BULK AT MOST 1048576: true; the input reads as it did. -/
def curveBoundUptoRow : OpenClaim := { program := "ytphcianmgpbjmaa", sum := "002a5965ee990fa32090e252fa825fb93300b3fcb71c5208a89686bca1adefae", func := "gouache/gouachelaw05.CurveBound", spec := "curveBound", inPlace := ["math/bits.Add64"], unfollowed := true, recurses := true, apart := false, narrowed := true }
def CurveBoundUptoSaid : Prop := curveBoundUptoRow.holds Try.pinned (OpenSpec.upto curveBoundSpec)

end Rows
end Go.Proofs.Ytphcianmgpbjmaa
