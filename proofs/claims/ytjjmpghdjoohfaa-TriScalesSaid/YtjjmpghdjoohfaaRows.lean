/-
  No cell of these rows narrows 'for every input' (looked for: loops, veiled, ifaces, maps, wideKeys, modest, calm, conditions, laid).
  DERIVED. THE GIVEN ROWS OF THIS SEAT. 4 by the template 'for every input the law returns true; each argument reads behind the call as it read before'; 0 by the template 'total and deterministic' (their statements: YtjjmpghdjoohfaaTotals.lean).
  GIVEN WITH THE SEED: the statements are not yours to turn. If you find one false, say at which input.
  Laid BY PROGRAM, IN A SANDBOX (cutbox-rows.mjs): the forced cells as the released guide's own fill.sh prints them over the translation 39d3fe9581a8c391… (all of the seat's roots in one cut). By AI agents, Wed Nov 11 2026. No macro, syntax, notation, axiom, sorry.
-/
import Derived.Test.YtjjmpghdjoohfaaChecked
import GoSem.Claim
import GoSem.ClaimJoined
import GoSem.ClaimMapViews
import Derived.JoinedTies
import Derived.KernelRfl
namespace Go.Proofs.Ytjjmpghdjoohfaa
/- THE CELL 'sum', in the pinned program and in every row, IS THE sha256 OF THE DUMP (.gsa) THAT YtjjmpghdjoohfaaProg.lean LOADS. Nothing in Lean hashes anything: it is a label: what it is worth is what the hold of that sum in a sandbox is worth. -/
noncomputable def Try.pinned : Pinned := { name := "ytjjmpghdjoohfaa", sum := "39d3fe9581a8c39172455de22995e2cec620e7927f2d49193571ead6a6b0ce0f", checked := Try.checked }
namespace Rows
def none {H : Type} : Left H := { results := [], args := [] }

/-- 'parquetlaw4.LineMeets': WHATEVER THE INPUT: true; the input reads as it did. -/
def lineMeetsSpec : ChangeSpec := { name := "lineMeets", fn := fun _ => fun
  | [d1, d2, d3, d4] => { results := [.lit (.bool true)], args := [d1, d2, d3, d4] }
  | _ => none }
def lineMeetsRow : OpenClaim := { program := "ytjjmpghdjoohfaa", sum := "39d3fe9581a8c39172455de22995e2cec620e7927f2d49193571ead6a6b0ce0f", func := "parquet/parquetlaw4.LineMeets", spec := "lineMeets", unfollowed := true, recurses := true, named := ["math/bits.overflowError"], apart := false }
def LineMeetsSaid : Prop := lineMeetsRow.holds Try.pinned (OpenSpec.ofChange lineMeetsSpec)

/-- ITS FALSE NEIGHBOUR: 'it returns false'. Refute it at one input. -/
def lineMeetsWrong : ChangeSpec := { name := "lineMeets", fn := fun _ => fun
  | [d1, d2, d3, d4] => { results := [.lit (.bool false)], args := [d1, d2, d3, d4] }
  | _ => none }
def LineMeetsWrongFalsely : Prop := lineMeetsRow.holds Try.pinned (OpenSpec.ofChange lineMeetsWrong)

/-- 'parquetlaw4.LineGrid': WHATEVER THE INPUT: true; the input reads as it did. -/
def lineGridSpec : ChangeSpec := { name := "lineGrid", fn := fun _ => fun
  | [d1, d2, d3, d4, d5, d6, d7, d8] => { results := [.lit (.bool true)], args := [d1, d2, d3, d4, d5, d6, d7, d8] }
  | _ => none }
def lineGridRow : OpenClaim := { program := "ytjjmpghdjoohfaa", sum := "39d3fe9581a8c39172455de22995e2cec620e7927f2d49193571ead6a6b0ce0f", func := "parquet/parquetlaw4.LineGrid", spec := "lineGrid", unfollowed := true, recurses := true, named := ["math/bits.overflowError"], apart := false }
def LineGridSaid : Prop := lineGridRow.holds Try.pinned (OpenSpec.ofChange lineGridSpec)

/-- ITS FALSE NEIGHBOUR: 'it returns false'. Refute it at one input. -/
def lineGridWrong : ChangeSpec := { name := "lineGrid", fn := fun _ => fun
  | [d1, d2, d3, d4, d5, d6, d7, d8] => { results := [.lit (.bool false)], args := [d1, d2, d3, d4, d5, d6, d7, d8] }
  | _ => none }
def LineGridWrongFalsely : Prop := lineGridRow.holds Try.pinned (OpenSpec.ofChange lineGridWrong)

/-- 'parquetlaw4.LineParts': WHATEVER THE INPUT: true; the input reads as it did. -/
def linePartsSpec : ChangeSpec := { name := "lineParts", fn := fun _ => fun
  | [d1, d2, d3, d4, d5, d6, d7] => { results := [.lit (.bool true)], args := [d1, d2, d3, d4, d5, d6, d7] }
  | _ => none }
def linePartsRow : OpenClaim := { program := "ytjjmpghdjoohfaa", sum := "39d3fe9581a8c39172455de22995e2cec620e7927f2d49193571ead6a6b0ce0f", func := "parquet/parquetlaw4.LineParts", spec := "lineParts", unfollowed := true, recurses := true, named := ["math/bits.overflowError"], apart := false }
def LinePartsSaid : Prop := linePartsRow.holds Try.pinned (OpenSpec.ofChange linePartsSpec)

/-- ITS FALSE NEIGHBOUR: 'it returns false'. Refute it at one input. -/
def linePartsWrong : ChangeSpec := { name := "lineParts", fn := fun _ => fun
  | [d1, d2, d3, d4, d5, d6, d7] => { results := [.lit (.bool false)], args := [d1, d2, d3, d4, d5, d6, d7] }
  | _ => none }
def LinePartsWrongFalsely : Prop := linePartsRow.holds Try.pinned (OpenSpec.ofChange linePartsWrong)

/-- 'parquetlaw5.TriScales': WHATEVER THE INPUT: true; the input reads as it did. -/
def triScalesSpec : ChangeSpec := { name := "triScales", fn := fun _ => fun
  | [d1, d2, d3, d4, d5] => { results := [.lit (.bool true)], args := [d1, d2, d3, d4, d5] }
  | _ => none }
def triScalesRow : OpenClaim := { program := "ytjjmpghdjoohfaa", sum := "39d3fe9581a8c39172455de22995e2cec620e7927f2d49193571ead6a6b0ce0f", func := "parquet/parquetlaw5.TriScales", spec := "triScales", named := ["math/bits.overflowError"], apart := false }
def TriScalesSaid : Prop := triScalesRow.holds Try.pinned (OpenSpec.ofChange triScalesSpec)

/-- ITS FALSE NEIGHBOUR: 'it returns false'. Refute it at one input. -/
def triScalesWrong : ChangeSpec := { name := "triScales", fn := fun _ => fun
  | [d1, d2, d3, d4, d5] => { results := [.lit (.bool false)], args := [d1, d2, d3, d4, d5] }
  | _ => none }
def TriScalesWrongFalsely : Prop := triScalesRow.holds Try.pinned (OpenSpec.ofChange triScalesWrong)

/- THE SECOND FORM. 'bulk': how many values and letters a reading holds, each counted each time it is reached (what is shared counts as often as it is met; a slice's spare places count too). A statement '..UptoSaid' is the law's where the arguments, and the package variables that the reading takes, are together of bulk at most 1048576: NARROWER than '..Said'. Prove '..Said' where nothing that the law and all that it calls make is longer than what came in: it says more and counts as full. Else prove '..UptoSaid'. A law counts once. -/
mutual
def uptoBulk {H : Type} : DataW H → Nat
  | .lit (.string bytes) => bytes.length + 1
  | .lit _ => 1
  | .nil => 1
  | .ptr d => uptoBulk d + 1
  | .slice elems spare => uptoBulkAll elems + uptoBulkAll spare + 1
  | .agg parts => uptoBulkAll parts + 1
  | .iface _ d => uptoBulk d + 1
  | .map entries => uptoBulkEntries entries + 1
  | .held _ => 1
def uptoBulkAll {H : Type} : List (DataW H) → Nat
  | [] => 0
  | d :: r => uptoBulk d + uptoBulkAll r
def uptoBulkEntries {H : Type} : List (Lit × DataW H) → Nat
  | [] => 0
  | x :: r => uptoBulkEntry x + uptoBulkEntries r
def uptoBulkEntry {H : Type} : Lit × DataW H → Nat
  | (.string bytes, d) => bytes.length + uptoBulk d + 1
  | (_, d) => uptoBulk d + 1
 end
def uptoSmall : (H : Type) → List (DataW H) → Bool := fun _ ds => decide (uptoBulkAll ds ≤ 1048576)
def OpenSpec.upto (s : _root_.Go.ChangeSpec) : _root_.Go.OpenSpec := { _root_.Go.OpenSpec.ofChange s with cond := some uptoSmall }

/-- 'parquetlaw4.LineMeets', WHERE WHAT IT READS IS OF BULK AT MOST 1048576: true; the input reads as it did. -/
def lineMeetsUptoRow : OpenClaim := { program := "ytjjmpghdjoohfaa", sum := "39d3fe9581a8c39172455de22995e2cec620e7927f2d49193571ead6a6b0ce0f", func := "parquet/parquetlaw4.LineMeets", spec := "lineMeets", unfollowed := true, recurses := true, named := ["math/bits.overflowError"], apart := false, narrowed := true }
def LineMeetsUptoSaid : Prop := lineMeetsUptoRow.holds Try.pinned (OpenSpec.upto lineMeetsSpec)

/-- 'parquetlaw4.LineGrid', WHERE WHAT IT READS IS OF BULK AT MOST 1048576: true; the input reads as it did. -/
def lineGridUptoRow : OpenClaim := { program := "ytjjmpghdjoohfaa", sum := "39d3fe9581a8c39172455de22995e2cec620e7927f2d49193571ead6a6b0ce0f", func := "parquet/parquetlaw4.LineGrid", spec := "lineGrid", unfollowed := true, recurses := true, named := ["math/bits.overflowError"], apart := false, narrowed := true }
def LineGridUptoSaid : Prop := lineGridUptoRow.holds Try.pinned (OpenSpec.upto lineGridSpec)

/-- 'parquetlaw4.LineParts', WHERE WHAT IT READS IS OF BULK AT MOST 1048576: true; the input reads as it did. -/
def linePartsUptoRow : OpenClaim := { program := "ytjjmpghdjoohfaa", sum := "39d3fe9581a8c39172455de22995e2cec620e7927f2d49193571ead6a6b0ce0f", func := "parquet/parquetlaw4.LineParts", spec := "lineParts", unfollowed := true, recurses := true, named := ["math/bits.overflowError"], apart := false, narrowed := true }
def LinePartsUptoSaid : Prop := linePartsUptoRow.holds Try.pinned (OpenSpec.upto linePartsSpec)

/-- 'parquetlaw5.TriScales', WHERE WHAT IT READS IS OF BULK AT MOST 1048576: true; the input reads as it did. -/
def triScalesUptoRow : OpenClaim := { program := "ytjjmpghdjoohfaa", sum := "39d3fe9581a8c39172455de22995e2cec620e7927f2d49193571ead6a6b0ce0f", func := "parquet/parquetlaw5.TriScales", spec := "triScales", named := ["math/bits.overflowError"], apart := false, narrowed := true }
def TriScalesUptoSaid : Prop := triScalesUptoRow.holds Try.pinned (OpenSpec.upto triScalesSpec)

end Rows
end Go.Proofs.Ytjjmpghdjoohfaa
