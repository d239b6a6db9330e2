/-
  No cell of these rows narrows 'for every input' (looked for: loops, veiled, ifaces, maps, wideKeys, modest, calm, conditions, laid).
  DERIVED. THE GIVEN ROWS OF THIS SEAT. 4 by the template 'for every input the law returns true; each argument reads behind the call as it read before'; 0 by the template 'total and deterministic' (their statements: YtklnlmebjeoidaaGreatTotals.lean).
  GIVEN WITH THE SEED: the statements are not yours to turn. If you find one false, say at which input.
  Laid BY PROGRAM, IN A SANDBOX (cutbox-rows.mjs): the forced cells as the released guide's own fill.sh prints them over the translation 4fd24adb4cf4909a… (all of the seat's roots in one cut). By AI agents, Wed Nov 11 2026. No macro, syntax, notation, axiom, sorry.
-/
import Derived.Test.YtklnlmebjeoidaaGreatChecked
import GoSem.Claim
import GoSem.ClaimJoined
import GoSem.ClaimMapViews
import Derived.JoinedTies
import Derived.KernelRfl
namespace Go.Proofs.YtklnlmebjeoidaaGreat
/- THE CELL 'sum', in the pinned program and in every row, IS THE sha256 OF THE DUMP (.gsa) THAT YtklnlmebjeoidaaGreatProg.lean LOADS. Nothing in Lean hashes anything: it is a label: what it is worth is what the hold of that sum in a sandbox is worth. -/
noncomputable def Tryz.pinned : Pinned := { name := "ytklnlmebjeoidaagreat", sum := "4fd24adb4cf4909aaa9d2037d128987a085f4a844b1c55149c67b90a0c30efbf", checked := Tryz.checked }
namespace Rows
def none {H : Type} : Left H := { results := [], args := [] }

/-- 'parquetlaw22.RimTells': WHATEVER THE INPUT: true; the input reads as it did. -/
def rimTellsSpec : ChangeSpec := { name := "rimTells", fn := fun _ => fun
  | [d1, d2, d3, d4] => { results := [.lit (.bool true)], args := [d1, d2, d3, d4] }
  | _ => none }
def rimTellsRow : OpenClaim := { program := "ytklnlmebjeoidaagreat", sum := "4fd24adb4cf4909aaa9d2037d128987a085f4a844b1c55149c67b90a0c30efbf", func := "parquet/parquetlaw22.RimTells", spec := "rimTells", unfollowed := true, recurses := true, named := ["math/bits.overflowError"], apart := false }
def RimTellsSaid : Prop := rimTellsRow.holds Tryz.pinned (OpenSpec.ofChange rimTellsSpec)

/-- ITS FALSE NEIGHBOUR: 'it returns false'. Refute it at one input. -/
def rimTellsWrong : ChangeSpec := { name := "rimTells", fn := fun _ => fun
  | [d1, d2, d3, d4] => { results := [.lit (.bool false)], args := [d1, d2, d3, d4] }
  | _ => none }
def RimTellsWrongFalsely : Prop := rimTellsRow.holds Tryz.pinned (OpenSpec.ofChange rimTellsWrong)

/-- 'parquetlaw22.RimSides': WHATEVER THE INPUT: true; the input reads as it did. -/
def rimSidesSpec : ChangeSpec := { name := "rimSides", fn := fun _ => fun
  | [d1, d2, d3] => { results := [.lit (.bool true)], args := [d1, d2, d3] }
  | _ => none }
def rimSidesRow : OpenClaim := { program := "ytklnlmebjeoidaagreat", sum := "4fd24adb4cf4909aaa9d2037d128987a085f4a844b1c55149c67b90a0c30efbf", func := "parquet/parquetlaw22.RimSides", spec := "rimSides", unfollowed := true, recurses := true, named := ["math/bits.overflowError"], apart := false }
def RimSidesSaid : Prop := rimSidesRow.holds Tryz.pinned (OpenSpec.ofChange rimSidesSpec)

/-- ITS FALSE NEIGHBOUR: 'it returns false'. Refute it at one input. -/
def rimSidesWrong : ChangeSpec := { name := "rimSides", fn := fun _ => fun
  | [d1, d2, d3] => { results := [.lit (.bool false)], args := [d1, d2, d3] }
  | _ => none }
def RimSidesWrongFalsely : Prop := rimSidesRow.holds Tryz.pinned (OpenSpec.ofChange rimSidesWrong)

/-- 'parquetlaw22.RimGrid': WHATEVER THE INPUT: true; the input reads as it did. -/
def rimGridSpec : ChangeSpec := { name := "rimGrid", fn := fun _ => fun
  | [d1, d2] => { results := [.lit (.bool true)], args := [d1, d2] }
  | _ => none }
def rimGridRow : OpenClaim := { program := "ytklnlmebjeoidaagreat", sum := "4fd24adb4cf4909aaa9d2037d128987a085f4a844b1c55149c67b90a0c30efbf", func := "parquet/parquetlaw22.RimGrid", spec := "rimGrid", unfollowed := true, recurses := true, named := ["math/bits.overflowError"], apart := false }
def RimGridSaid : Prop := rimGridRow.holds Tryz.pinned (OpenSpec.ofChange rimGridSpec)

/-- ITS FALSE NEIGHBOUR: 'it returns false'. Refute it at one input. -/
def rimGridWrong : ChangeSpec := { name := "rimGrid", fn := fun _ => fun
  | [d1, d2] => { results := [.lit (.bool false)], args := [d1, d2] }
  | _ => none }
def RimGridWrongFalsely : Prop := rimGridRow.holds Tryz.pinned (OpenSpec.ofChange rimGridWrong)

/-- 'parquetlaw22.RimCorners': WHATEVER THE INPUT: true; the input reads as it did. -/
def rimCornersSpec : ChangeSpec := { name := "rimCorners", fn := fun _ => fun
  | [d1, d2] => { results := [.lit (.bool true)], args := [d1, d2] }
  | _ => none }
def rimCornersRow : OpenClaim := { program := "ytklnlmebjeoidaagreat", sum := "4fd24adb4cf4909aaa9d2037d128987a085f4a844b1c55149c67b90a0c30efbf", func := "parquet/parquetlaw22.RimCorners", spec := "rimCorners", unfollowed := true, recurses := true, named := ["math/bits.overflowError"], apart := false }
def RimCornersSaid : Prop := rimCornersRow.holds Tryz.pinned (OpenSpec.ofChange rimCornersSpec)

/-- ITS FALSE NEIGHBOUR: 'it returns false'. Refute it at one input. -/
def rimCornersWrong : ChangeSpec := { name := "rimCorners", fn := fun _ => fun
  | [d1, d2] => { results := [.lit (.bool false)], args := [d1, d2] }
  | _ => none }
def RimCornersWrongFalsely : Prop := rimCornersRow.holds Tryz.pinned (OpenSpec.ofChange rimCornersWrong)

/- THE SECOND FORM. 'bulk': how many values and letters a reading holds, each counted each time it is reached (what is shared counts as often as it is met; a slice's spare places count too). A statement '..UptoSaid' is the law's where the arguments, and the package variables that the reading takes, are together of bulk at most 1048576: NARROWER than '..Said'. Prove '..Said' where nothing that the law and all that it calls make is longer than what came in: it says more and counts as full. Else prove '..UptoSaid'. A law counts once. -/
mutual
def uptoBulk {H : Type} : DataW H → Nat
  | .lit (.string bytes) => bytes.length + 1
  | .lit _ => 1
  | .nil => 1
  | .ptr d => uptoBulk d + 1
  | .slice elems spare => uptoBulkAll elems + uptoBulkAll spare + 1
  | .agg parts => uptoBulkAll parts + 1
  | .iface _ d => uptoBulk d + 1
  | .map entries => uptoBulkEntries entries + 1
  | .held _ => 1
def uptoBulkAll {H : Type} : List (DataW H) → Nat
  | [] => 0
  | d :: r => uptoBulk d + uptoBulkAll r
def uptoBulkEntries {H : Type} : List (Lit × DataW H) → Nat
  | [] => 0
  | x :: r => uptoBulkEntry x + uptoBulkEntries r
def uptoBulkEntry {H : Type} : Lit × DataW H → Nat
  | (.string bytes, d) => bytes.length + uptoBulk d + 1
  | (_, d) => uptoBulk d + 1
 end
def uptoSmall : (H : Type) → List (DataW H) → Bool := fun _ ds => decide (uptoBulkAll ds ≤ 1048576)
def OpenSpec.upto (s : _root_.Go.ChangeSpec) : _root_.Go.OpenSpec := { _root_.Go.OpenSpec.ofChange s with cond := some uptoSmall }

/-- 'parquetlaw22.RimTells', WHERE WHAT IT READS IS OF BULK AT MOST 1048576: true; the input reads as it did. -/
def rimTellsUptoRow : OpenClaim := { program := "ytklnlmebjeoidaagreat", sum := "4fd24adb4cf4909aaa9d2037d128987a085f4a844b1c55149c67b90a0c30efbf", func := "parquet/parquetlaw22.RimTells", spec := "rimTells", unfollowed := true, recurses := true, named := ["math/bits.overflowError"], apart := false, narrowed := true }
def RimTellsUptoSaid : Prop := rimTellsUptoRow.holds Tryz.pinned (OpenSpec.upto rimTellsSpec)

/-- 'parquetlaw22.RimSides', WHERE WHAT IT READS IS OF BULK AT MOST 1048576: true; the input reads as it did. -/
def rimSidesUptoRow : OpenClaim := { program := "ytklnlmebjeoidaagreat", sum := "4fd24adb4cf4909aaa9d2037d128987a085f4a844b1c55149c67b90a0c30efbf", func := "parquet/parquetlaw22.RimSides", spec := "rimSides", unfollowed := true, recurses := true, named := ["math/bits.overflowError"], apart := false, narrowed := true }
def RimSidesUptoSaid : Prop := rimSidesUptoRow.holds Tryz.pinned (OpenSpec.upto rimSidesSpec)

/-- 'parquetlaw22.RimGrid', WHERE WHAT IT READS IS OF BULK AT MOST 1048576: true; the input reads as it did. -/
def rimGridUptoRow : OpenClaim := { program := "ytklnlmebjeoidaagreat", sum := "4fd24adb4cf4909aaa9d2037d128987a085f4a844b1c55149c67b90a0c30efbf", func := "parquet/parquetlaw22.RimGrid", spec := "rimGrid", unfollowed := true, recurses := true, named := ["math/bits.overflowError"], apart := false, narrowed := true }
def RimGridUptoSaid : Prop := rimGridUptoRow.holds Tryz.pinned (OpenSpec.upto rimGridSpec)

/-- 'parquetlaw22.RimCorners', WHERE WHAT IT READS IS OF BULK AT MOST 1048576: true; the input reads as it did. -/
def rimCornersUptoRow : OpenClaim := { program := "ytklnlmebjeoidaagreat", sum := "4fd24adb4cf4909aaa9d2037d128987a085f4a844b1c55149c67b90a0c30efbf", func := "parquet/parquetlaw22.RimCorners", spec := "rimCorners", unfollowed := true, recurses := true, named := ["math/bits.overflowError"], apart := false, narrowed := true }
def RimCornersUptoSaid : Prop := rimCornersUptoRow.holds Tryz.pinned (OpenSpec.upto rimCornersSpec)

end Rows
end Go.Proofs.YtklnlmebjeoidaaGreat
