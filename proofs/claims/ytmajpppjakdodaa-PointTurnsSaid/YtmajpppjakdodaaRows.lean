/-
  No cell of these rows narrows 'for every input' (looked for: loops, veiled, ifaces, maps, wideKeys, modest, calm, conditions, laid).
  DERIVED. THE GIVEN ROWS OF THIS SEAT. 10 by the template 'for every input the law returns true; each argument reads behind the call as it read before'; 0 by the template 'total and deterministic' (their statements: YtmajpppjakdodaaTotals.lean).
  GIVEN WITH THE SEED: the statements are not yours to turn. If you find one false, say at which input.
  Laid BY PROGRAM, IN A SANDBOX (cutbox-rows.mjs): the forced cells as the released guide's own fill.sh prints them over the translation 0710fa5198a6893c… (all of the seat's roots in one cut). By AI agents, Wed Nov 11 2026. No macro, syntax, notation, axiom, sorry.
-/
import Derived.Test.YtmajpppjakdodaaChecked
import GoSem.Claim
import GoSem.ClaimJoined
import GoSem.ClaimMapViews
import Derived.JoinedTies
import Derived.KernelRfl
namespace Go.Proofs.Ytmajpppjakdodaa
/- THE CELL 'sum', in the pinned program and in every row, IS THE sha256 OF THE DUMP (.gsa) THAT YtmajpppjakdodaaProg.lean LOADS. Nothing in Lean hashes anything: it is a label: what it is worth is what the hold of that sum in a sandbox is worth. -/
noncomputable def Try.pinned : Pinned := { name := "ytmajpppjakdodaa", sum := "0710fa5198a6893c34a271e2604a50d907bcd1b1c251e08bd0f33aa65893b2b3", checked := Try.checked }
namespace Rows
def none {H : Type} : Left H := { results := [], args := [] }

/-- 'parquetlaw1.WideShifts': WHATEVER THE INPUT: true; the input reads as it did. -/
def wideShiftsSpec : ChangeSpec := { name := "wideShifts", fn := fun _ => fun
  | [d1, d2] => { results := [.lit (.bool true)], args := [d1, d2] }
  | _ => none }
def wideShiftsRow : OpenClaim := { program := "ytmajpppjakdodaa", sum := "0710fa5198a6893c34a271e2604a50d907bcd1b1c251e08bd0f33aa65893b2b3", func := "parquet/parquetlaw1.WideShifts", spec := "wideShifts", named := ["math/bits.overflowError"], apart := false }
def WideShiftsSaid : Prop := wideShiftsRow.holds Try.pinned (OpenSpec.ofChange wideShiftsSpec)

/-- ITS FALSE NEIGHBOUR: 'it returns false'. Refute it at one input. -/
def wideShiftsWrong : ChangeSpec := { name := "wideShifts", fn := fun _ => fun
  | [d1, d2] => { results := [.lit (.bool false)], args := [d1, d2] }
  | _ => none }
def WideShiftsWrongFalsely : Prop := wideShiftsRow.holds Try.pinned (OpenSpec.ofChange wideShiftsWrong)

/-- 'parquetlaw1.WideGcds': WHATEVER THE INPUT: true; the input reads as it did. -/
def wideGcdsSpec : ChangeSpec := { name := "wideGcds", fn := fun _ => fun
  | [d1, d2] => { results := [.lit (.bool true)], args := [d1, d2] }
  | _ => none }
def wideGcdsRow : OpenClaim := { program := "ytmajpppjakdodaa", sum := "0710fa5198a6893c34a271e2604a50d907bcd1b1c251e08bd0f33aa65893b2b3", func := "parquet/parquetlaw1.WideGcds", spec := "wideGcds", named := ["math/bits.overflowError"], apart := false }
def WideGcdsSaid : Prop := wideGcdsRow.holds Try.pinned (OpenSpec.ofChange wideGcdsSpec)

/-- ITS FALSE NEIGHBOUR: 'it returns false'. Refute it at one input. -/
def wideGcdsWrong : ChangeSpec := { name := "wideGcds", fn := fun _ => fun
  | [d1, d2] => { results := [.lit (.bool false)], args := [d1, d2] }
  | _ => none }
def WideGcdsWrongFalsely : Prop := wideGcdsRow.holds Try.pinned (OpenSpec.ofChange wideGcdsWrong)

/-- 'parquetlaw1.WideTextBack': WHATEVER THE INPUT: true; the input reads as it did. -/
def wideTextBackSpec : ChangeSpec := { name := "wideTextBack", fn := fun _ => fun
  | [d1, d2] => { results := [.lit (.bool true)], args := [d1, d2] }
  | _ => none }
def wideTextBackRow : OpenClaim := { program := "ytmajpppjakdodaa", sum := "0710fa5198a6893c34a271e2604a50d907bcd1b1c251e08bd0f33aa65893b2b3", func := "parquet/parquetlaw1.WideTextBack", spec := "wideTextBack", named := ["math/bits.overflowError"], apart := false }
def WideTextBackSaid : Prop := wideTextBackRow.holds Try.pinned (OpenSpec.ofChange wideTextBackSpec)

/-- ITS FALSE NEIGHBOUR: 'it returns false'. Refute it at one input. -/
def wideTextBackWrong : ChangeSpec := { name := "wideTextBack", fn := fun _ => fun
  | [d1, d2] => { results := [.lit (.bool false)], args := [d1, d2] }
  | _ => none }
def WideTextBackWrongFalsely : Prop := wideTextBackRow.holds Try.pinned (OpenSpec.ofChange wideTextBackWrong)

/-- 'parquetlaw1.WideTells': WHATEVER THE INPUT: true; the input reads as it did. -/
def wideTellsSpec : ChangeSpec := { name := "wideTells", fn := fun _ => fun
  | [d1, d2, d3, d4] => { results := [.lit (.bool true)], args := [d1, d2, d3, d4] }
  | _ => none }
def wideTellsRow : OpenClaim := { program := "ytmajpppjakdodaa", sum := "0710fa5198a6893c34a271e2604a50d907bcd1b1c251e08bd0f33aa65893b2b3", func := "parquet/parquetlaw1.WideTells", spec := "wideTells", named := ["math/bits.overflowError"], apart := false }
def WideTellsSaid : Prop := wideTellsRow.holds Try.pinned (OpenSpec.ofChange wideTellsSpec)

/-- ITS FALSE NEIGHBOUR: 'it returns false'. Refute it at one input. -/
def wideTellsWrong : ChangeSpec := { name := "wideTells", fn := fun _ => fun
  | [d1, d2, d3, d4] => { results := [.lit (.bool false)], args := [d1, d2, d3, d4] }
  | _ => none }
def WideTellsWrongFalsely : Prop := wideTellsRow.holds Try.pinned (OpenSpec.ofChange wideTellsWrong)

/-- 'parquetlaw1.WideLaws': WHATEVER THE INPUT: true; the input reads as it did. -/
def wideLawsSpec : ChangeSpec := { name := "wideLaws", fn := fun _ => fun
  | [d1, d2, d3] => { results := [.lit (.bool true)], args := [d1, d2, d3] }
  | _ => none }
def wideLawsRow : OpenClaim := { program := "ytmajpppjakdodaa", sum := "0710fa5198a6893c34a271e2604a50d907bcd1b1c251e08bd0f33aa65893b2b3", func := "parquet/parquetlaw1.WideLaws", spec := "wideLaws", named := ["math/bits.overflowError"], apart := false }
def WideLawsSaid : Prop := wideLawsRow.holds Try.pinned (OpenSpec.ofChange wideLawsSpec)

/-- ITS FALSE NEIGHBOUR: 'it returns false'. Refute it at one input. -/
def wideLawsWrong : ChangeSpec := { name := "wideLaws", fn := fun _ => fun
  | [d1, d2, d3] => { results := [.lit (.bool false)], args := [d1, d2, d3] }
  | _ => none }
def WideLawsWrongFalsely : Prop := wideLawsRow.holds Try.pinned (OpenSpec.ofChange wideLawsWrong)

/-- 'parquetlaw1.WideEnds': WHATEVER THE INPUT: true; the input reads as it did. -/
def wideEndsSpec : ChangeSpec := { name := "wideEnds", fn := fun _ => fun
  | [d1, d2] => { results := [.lit (.bool true)], args := [d1, d2] }
  | _ => none }
def wideEndsRow : OpenClaim := { program := "ytmajpppjakdodaa", sum := "0710fa5198a6893c34a271e2604a50d907bcd1b1c251e08bd0f33aa65893b2b3", func := "parquet/parquetlaw1.WideEnds", spec := "wideEnds", named := ["math/bits.overflowError"], apart := false }
def WideEndsSaid : Prop := wideEndsRow.holds Try.pinned (OpenSpec.ofChange wideEndsSpec)

/-- ITS FALSE NEIGHBOUR: 'it returns false'. Refute it at one input. -/
def wideEndsWrong : ChangeSpec := { name := "wideEnds", fn := fun _ => fun
  | [d1, d2] => { results := [.lit (.bool false)], args := [d1, d2] }
  | _ => none }
def WideEndsWrongFalsely : Prop := wideEndsRow.holds Try.pinned (OpenSpec.ofChange wideEndsWrong)

/-- 'parquetlaw3.PointTurns': WHATEVER THE INPUT: true; the input reads as it did. -/
def pointTurnsSpec : ChangeSpec := { name := "pointTurns", fn := fun _ => fun
  | [d1, d2, d3] => { results := [.lit (.bool true)], args := [d1, d2, d3] }
  | _ => none }
def pointTurnsRow : OpenClaim := { program := "ytmajpppjakdodaa", sum := "0710fa5198a6893c34a271e2604a50d907bcd1b1c251e08bd0f33aa65893b2b3", func := "parquet/parquetlaw3.PointTurns", spec := "pointTurns", named := ["math/bits.overflowError"], apart := false }
def PointTurnsSaid : Prop := pointTurnsRow.holds Try.pinned (OpenSpec.ofChange pointTurnsSpec)

/-- ITS FALSE NEIGHBOUR: 'it returns false'. Refute it at one input. -/
def pointTurnsWrong : ChangeSpec := { name := "pointTurns", fn := fun _ => fun
  | [d1, d2, d3] => { results := [.lit (.bool false)], args := [d1, d2, d3] }
  | _ => none }
def PointTurnsWrongFalsely : Prop := pointTurnsRow.holds Try.pinned (OpenSpec.ofChange pointTurnsWrong)

/-- 'parquetlaw3.PointMoves': WHATEVER THE INPUT: true; the input reads as it did. -/
def pointMovesSpec : ChangeSpec := { name := "pointMoves", fn := fun _ => fun
  | [d1, d2, d3, d4, d5, d6, d7, d8] => { results := [.lit (.bool true)], args := [d1, d2, d3, d4, d5, d6, d7, d8] }
  | _ => none }
def pointMovesRow : OpenClaim := { program := "ytmajpppjakdodaa", sum := "0710fa5198a6893c34a271e2604a50d907bcd1b1c251e08bd0f33aa65893b2b3", func := "parquet/parquetlaw3.PointMoves", spec := "pointMoves", named := ["math/bits.overflowError"], apart := false }
def PointMovesSaid : Prop := pointMovesRow.holds Try.pinned (OpenSpec.ofChange pointMovesSpec)

/-- ITS FALSE NEIGHBOUR: 'it returns false'. Refute it at one input. -/
def pointMovesWrong : ChangeSpec := { name := "pointMoves", fn := fun _ => fun
  | [d1, d2, d3, d4, d5, d6, d7, d8] => { results := [.lit (.bool false)], args := [d1, d2, d3, d4, d5, d6, d7, d8] }
  | _ => none }
def PointMovesWrongFalsely : Prop := pointMovesRow.holds Try.pinned (OpenSpec.ofChange pointMovesWrong)

/-- 'parquetlaw3.PointOrders': WHATEVER THE INPUT: true; the input reads as it did. -/
def pointOrdersSpec : ChangeSpec := { name := "pointOrders", fn := fun _ => fun
  | [d1, d2, d3] => { results := [.lit (.bool true)], args := [d1, d2, d3] }
  | _ => none }
def pointOrdersRow : OpenClaim := { program := "ytmajpppjakdodaa", sum := "0710fa5198a6893c34a271e2604a50d907bcd1b1c251e08bd0f33aa65893b2b3", func := "parquet/parquetlaw3.PointOrders", spec := "pointOrders", named := ["math/bits.overflowError"], apart := false }
def PointOrdersSaid : Prop := pointOrdersRow.holds Try.pinned (OpenSpec.ofChange pointOrdersSpec)

/-- ITS FALSE NEIGHBOUR: 'it returns false'. Refute it at one input. -/
def pointOrdersWrong : ChangeSpec := { name := "pointOrders", fn := fun _ => fun
  | [d1, d2, d3] => { results := [.lit (.bool false)], args := [d1, d2, d3] }
  | _ => none }
def PointOrdersWrongFalsely : Prop := pointOrdersRow.holds Try.pinned (OpenSpec.ofChange pointOrdersWrong)

/-- 'parquetlaw3.PointMids': WHATEVER THE INPUT: true; the input reads as it did. -/
def pointMidsSpec : ChangeSpec := { name := "pointMids", fn := fun _ => fun
  | [d1, d2, d3, d4] => { results := [.lit (.bool true)], args := [d1, d2, d3, d4] }
  | _ => none }
def pointMidsRow : OpenClaim := { program := "ytmajpppjakdodaa", sum := "0710fa5198a6893c34a271e2604a50d907bcd1b1c251e08bd0f33aa65893b2b3", func := "parquet/parquetlaw3.PointMids", spec := "pointMids", named := ["math/bits.overflowError"], apart := false }
def PointMidsSaid : Prop := pointMidsRow.holds Try.pinned (OpenSpec.ofChange pointMidsSpec)

/-- ITS FALSE NEIGHBOUR: 'it returns false'. Refute it at one input. -/
def pointMidsWrong : ChangeSpec := { name := "pointMids", fn := fun _ => fun
  | [d1, d2, d3, d4] => { results := [.lit (.bool false)], args := [d1, d2, d3, d4] }
  | _ => none }
def PointMidsWrongFalsely : Prop := pointMidsRow.holds Try.pinned (OpenSpec.ofChange pointMidsWrong)

/- THE SECOND FORM. 'bulk': how many values and letters a reading holds, each counted each time it is reached (what is shared counts as often as it is met; a slice's spare places count too). A statement '..UptoSaid' is the law's where the arguments, and the package variables that the reading takes, are together of bulk at most 1048576: NARROWER than '..Said'. Prove '..Said' where nothing that the law and all that it calls make is longer than what came in: it says more and counts as full. Else prove '..UptoSaid'. A law counts once. -/
mutual
def uptoBulk {H : Type} : DataW H → Nat
  | .lit (.string bytes) => bytes.length + 1
  | .lit _ => 1
  | .nil => 1
  | .ptr d => uptoBulk d + 1
  | .slice elems spare => uptoBulkAll elems + uptoBulkAll spare + 1
  | .agg parts => uptoBulkAll parts + 1
  | .iface _ d => uptoBulk d + 1
  | .map entries => uptoBulkEntries entries + 1
  | .held _ => 1
def uptoBulkAll {H : Type} : List (DataW H) → Nat
  | [] => 0
  | d :: r => uptoBulk d + uptoBulkAll r
def uptoBulkEntries {H : Type} : List (Lit × DataW H) → Nat
  | [] => 0
  | x :: r => uptoBulkEntry x + uptoBulkEntries r
def uptoBulkEntry {H : Type} : Lit × DataW H → Nat
  | (.string bytes, d) => bytes.length + uptoBulk d + 1
  | (_, d) => uptoBulk d + 1
 end
def uptoSmall : (H : Type) → List (DataW H) → Bool := fun _ ds => decide (uptoBulkAll ds ≤ 1048576)
def OpenSpec.upto (s : _root_.Go.ChangeSpec) : _root_.Go.OpenSpec := { _root_.Go.OpenSpec.ofChange s with cond := some uptoSmall }

/-- 'parquetlaw1.WideShifts', WHERE WHAT IT READS IS OF BULK AT MOST 1048576: true; the input reads as it did. -/
def wideShiftsUptoRow : OpenClaim := { program := "ytmajpppjakdodaa", sum := "0710fa5198a6893c34a271e2604a50d907bcd1b1c251e08bd0f33aa65893b2b3", func := "parquet/parquetlaw1.WideShifts", spec := "wideShifts", named := ["math/bits.overflowError"], apart := false, narrowed := true }
def WideShiftsUptoSaid : Prop := wideShiftsUptoRow.holds Try.pinned (OpenSpec.upto wideShiftsSpec)

/-- 'parquetlaw1.WideGcds', WHERE WHAT IT READS IS OF BULK AT MOST 1048576: true; the input reads as it did. -/
def wideGcdsUptoRow : OpenClaim := { program := "ytmajpppjakdodaa", sum := "0710fa5198a6893c34a271e2604a50d907bcd1b1c251e08bd0f33aa65893b2b3", func := "parquet/parquetlaw1.WideGcds", spec := "wideGcds", named := ["math/bits.overflowError"], apart := false, narrowed := true }
def WideGcdsUptoSaid : Prop := wideGcdsUptoRow.holds Try.pinned (OpenSpec.upto wideGcdsSpec)

/-- 'parquetlaw1.WideTextBack', WHERE WHAT IT READS IS OF BULK AT MOST 1048576: true; the input reads as it did. -/
def wideTextBackUptoRow : OpenClaim := { program := "ytmajpppjakdodaa", sum := "0710fa5198a6893c34a271e2604a50d907bcd1b1c251e08bd0f33aa65893b2b3", func := "parquet/parquetlaw1.WideTextBack", spec := "wideTextBack", named := ["math/bits.overflowError"], apart := false, narrowed := true }
def WideTextBackUptoSaid : Prop := wideTextBackUptoRow.holds Try.pinned (OpenSpec.upto wideTextBackSpec)

/-- 'parquetlaw1.WideTells', WHERE WHAT IT READS IS OF BULK AT MOST 1048576: true; the input reads as it did. -/
def wideTellsUptoRow : OpenClaim := { program := "ytmajpppjakdodaa", sum := "0710fa5198a6893c34a271e2604a50d907bcd1b1c251e08bd0f33aa65893b2b3", func := "parquet/parquetlaw1.WideTells", spec := "wideTells", named := ["math/bits.overflowError"], apart := false, narrowed := true }
def WideTellsUptoSaid : Prop := wideTellsUptoRow.holds Try.pinned (OpenSpec.upto wideTellsSpec)

/-- 'parquetlaw1.WideLaws', WHERE WHAT IT READS IS OF BULK AT MOST 1048576: true; the input reads as it did. -/
def wideLawsUptoRow : OpenClaim := { program := "ytmajpppjakdodaa", sum := "0710fa5198a6893c34a271e2604a50d907bcd1b1c251e08bd0f33aa65893b2b3", func := "parquet/parquetlaw1.WideLaws", spec := "wideLaws", named := ["math/bits.overflowError"], apart := false, narrowed := true }
def WideLawsUptoSaid : Prop := wideLawsUptoRow.holds Try.pinned (OpenSpec.upto wideLawsSpec)

/-- 'parquetlaw1.WideEnds', WHERE WHAT IT READS IS OF BULK AT MOST 1048576: true; the input reads as it did. -/
def wideEndsUptoRow : OpenClaim := { program := "ytmajpppjakdodaa", sum := "0710fa5198a6893c34a271e2604a50d907bcd1b1c251e08bd0f33aa65893b2b3", func := "parquet/parquetlaw1.WideEnds", spec := "wideEnds", named := ["math/bits.overflowError"], apart := false, narrowed := true }
def WideEndsUptoSaid : Prop := wideEndsUptoRow.holds Try.pinned (OpenSpec.upto wideEndsSpec)

/-- 'parquetlaw3.PointTurns', WHERE WHAT IT READS IS OF BULK AT MOST 1048576: true; the input reads as it did. -/
def pointTurnsUptoRow : OpenClaim := { program := "ytmajpppjakdodaa", sum := "0710fa5198a6893c34a271e2604a50d907bcd1b1c251e08bd0f33aa65893b2b3", func := "parquet/parquetlaw3.PointTurns", spec := "pointTurns", named := ["math/bits.overflowError"], apart := false, narrowed := true }
def PointTurnsUptoSaid : Prop := pointTurnsUptoRow.holds Try.pinned (OpenSpec.upto pointTurnsSpec)

/-- 'parquetlaw3.PointMoves', WHERE WHAT IT READS IS OF BULK AT MOST 1048576: true; the input reads as it did. -/
def pointMovesUptoRow : OpenClaim := { program := "ytmajpppjakdodaa", sum := "0710fa5198a6893c34a271e2604a50d907bcd1b1c251e08bd0f33aa65893b2b3", func := "parquet/parquetlaw3.PointMoves", spec := "pointMoves", named := ["math/bits.overflowError"], apart := false, narrowed := true }
def PointMovesUptoSaid : Prop := pointMovesUptoRow.holds Try.pinned (OpenSpec.upto pointMovesSpec)

/-- 'parquetlaw3.PointOrders', WHERE WHAT IT READS IS OF BULK AT MOST 1048576: true; the input reads as it did. -/
def pointOrdersUptoRow : OpenClaim := { program := "ytmajpppjakdodaa", sum := "0710fa5198a6893c34a271e2604a50d907bcd1b1c251e08bd0f33aa65893b2b3", func := "parquet/parquetlaw3.PointOrders", spec := "pointOrders", named := ["math/bits.overflowError"], apart := false, narrowed := true }
def PointOrdersUptoSaid : Prop := pointOrdersUptoRow.holds Try.pinned (OpenSpec.upto pointOrdersSpec)

/-- 'parquetlaw3.PointMids', WHERE WHAT IT READS IS OF BULK AT MOST 1048576: true; the input reads as it did. -/
def pointMidsUptoRow : OpenClaim := { program := "ytmajpppjakdodaa", sum := "0710fa5198a6893c34a271e2604a50d907bcd1b1c251e08bd0f33aa65893b2b3", func := "parquet/parquetlaw3.PointMids", spec := "pointMids", named := ["math/bits.overflowError"], apart := false, narrowed := true }
def PointMidsUptoSaid : Prop := pointMidsUptoRow.holds Try.pinned (OpenSpec.upto pointMidsSpec)

end Rows
end Go.Proofs.Ytmajpppjakdodaa
