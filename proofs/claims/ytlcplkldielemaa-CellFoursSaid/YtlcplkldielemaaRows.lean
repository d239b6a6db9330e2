/-
  No cell of these rows narrows 'for every input' (looked for: loops, veiled, ifaces, maps, wideKeys, modest, calm, conditions, laid).
  DERIVED. THE GIVEN ROWS OF THIS SEAT. 4 by the template 'for every input the law returns true; each argument reads behind the call as it read before'; 0 by the template 'total and deterministic' (their statements: YtlcplkldielemaaTotals.lean).
  GIVEN WITH THE SEED: the statements are not yours to turn. If you find one false, say at which input.
  Laid BY PROGRAM, IN A SANDBOX (cutbox-rows.mjs): the forced cells as the released guide's own fill.sh prints them over the translation 8a8584187e14a713… (all of the seat's roots in one cut). By AI agents, Wed Nov 11 2026. No macro, syntax, notation, axiom, sorry.
-/
import Derived.Test.YtlcplkldielemaaChecked
import GoSem.Claim
import GoSem.ClaimJoined
import GoSem.ClaimMapViews
import Derived.JoinedTies
import Derived.KernelRfl
namespace Go.Proofs.Ytlcplkldielemaa
/- THE CELL 'sum', in the pinned program and in every row, IS THE sha256 OF THE DUMP (.gsa) THAT YtlcplkldielemaaProg.lean LOADS. Nothing in Lean hashes anything: it is a label: what it is worth is what the hold of that sum in a sandbox is worth. -/
noncomputable def Try.pinned : Pinned := { name := "ytlcplkldielemaa", sum := "8a8584187e14a7134df1c1a12cedb2a4b13c2654dc939924227e230849908f5b", checked := Try.checked }
namespace Rows
def none {H : Type} : Left H := { results := [], args := [] }

/-- 'parquetlaw12.CellFours': WHATEVER THE INPUT: true; the input reads as it did. -/
def cellFoursSpec : ChangeSpec := { name := "cellFours", fn := fun _ => fun
  | [d1, d2, d3] => { results := [.lit (.bool true)], args := [d1, d2, d3] }
  | _ => none }
def cellFoursRow : OpenClaim := { program := "ytlcplkldielemaa", sum := "8a8584187e14a7134df1c1a12cedb2a4b13c2654dc939924227e230849908f5b", func := "parquet/parquetlaw12.CellFours", spec := "cellFours", named := ["math/bits.overflowError"], apart := false }
def CellFoursSaid : Prop := cellFoursRow.holds Try.pinned (OpenSpec.ofChange cellFoursSpec)

/-- ITS FALSE NEIGHBOUR: 'it returns false'. Refute it at one input. -/
def cellFoursWrong : ChangeSpec := { name := "cellFours", fn := fun _ => fun
  | [d1, d2, d3] => { results := [.lit (.bool false)], args := [d1, d2, d3] }
  | _ => none }
def CellFoursWrongFalsely : Prop := cellFoursRow.holds Try.pinned (OpenSpec.ofChange cellFoursWrong)

/-- 'parquetlaw12.CellUps': WHATEVER THE INPUT: true; the input reads as it did. -/
def cellUpsSpec : ChangeSpec := { name := "cellUps", fn := fun _ => fun
  | [d1, d2] => { results := [.lit (.bool true)], args := [d1, d2] }
  | _ => none }
def cellUpsRow : OpenClaim := { program := "ytlcplkldielemaa", sum := "8a8584187e14a7134df1c1a12cedb2a4b13c2654dc939924227e230849908f5b", func := "parquet/parquetlaw12.CellUps", spec := "cellUps", named := ["math/bits.overflowError"], apart := false }
def CellUpsSaid : Prop := cellUpsRow.holds Try.pinned (OpenSpec.ofChange cellUpsSpec)

/-- ITS FALSE NEIGHBOUR: 'it returns false'. Refute it at one input. -/
def cellUpsWrong : ChangeSpec := { name := "cellUps", fn := fun _ => fun
  | [d1, d2] => { results := [.lit (.bool false)], args := [d1, d2] }
  | _ => none }
def CellUpsWrongFalsely : Prop := cellUpsRow.holds Try.pinned (OpenSpec.ofChange cellUpsWrong)

/-- 'parquetlaw12.CellKeys': WHATEVER THE INPUT: true; the input reads as it did. -/
def cellKeysSpec : ChangeSpec := { name := "cellKeys", fn := fun _ => fun
  | [d1, d2, d3, d4] => { results := [.lit (.bool true)], args := [d1, d2, d3, d4] }
  | _ => none }
def cellKeysRow : OpenClaim := { program := "ytlcplkldielemaa", sum := "8a8584187e14a7134df1c1a12cedb2a4b13c2654dc939924227e230849908f5b", func := "parquet/parquetlaw12.CellKeys", spec := "cellKeys", named := ["math/bits.overflowError"], apart := false }
def CellKeysSaid : Prop := cellKeysRow.holds Try.pinned (OpenSpec.ofChange cellKeysSpec)

/-- ITS FALSE NEIGHBOUR: 'it returns false'. Refute it at one input. -/
def cellKeysWrong : ChangeSpec := { name := "cellKeys", fn := fun _ => fun
  | [d1, d2, d3, d4] => { results := [.lit (.bool false)], args := [d1, d2, d3, d4] }
  | _ => none }
def CellKeysWrongFalsely : Prop := cellKeysRow.holds Try.pinned (OpenSpec.ofChange cellKeysWrong)

/-- 'parquetlaw12.CellBeside': WHATEVER THE INPUT: true; the input reads as it did. -/
def cellBesideSpec : ChangeSpec := { name := "cellBeside", fn := fun _ => fun
  | [d1, d2, d3, d4] => { results := [.lit (.bool true)], args := [d1, d2, d3, d4] }
  | _ => none }
def cellBesideRow : OpenClaim := { program := "ytlcplkldielemaa", sum := "8a8584187e14a7134df1c1a12cedb2a4b13c2654dc939924227e230849908f5b", func := "parquet/parquetlaw12.CellBeside", spec := "cellBeside", named := ["math/bits.overflowError"], apart := false }
def CellBesideSaid : Prop := cellBesideRow.holds Try.pinned (OpenSpec.ofChange cellBesideSpec)

/-- ITS FALSE NEIGHBOUR: 'it returns false'. Refute it at one input. -/
def cellBesideWrong : ChangeSpec := { name := "cellBeside", fn := fun _ => fun
  | [d1, d2, d3, d4] => { results := [.lit (.bool false)], args := [d1, d2, d3, d4] }
  | _ => none }
def CellBesideWrongFalsely : Prop := cellBesideRow.holds Try.pinned (OpenSpec.ofChange cellBesideWrong)

/- THE SECOND FORM. 'bulk': how many values and letters a reading holds, each counted each time it is reached (what is shared counts as often as it is met; a slice's spare places count too). A statement '..UptoSaid' is the law's where the arguments, and the package variables that the reading takes, are together of bulk at most 1048576: NARROWER than '..Said'. Prove '..Said' where nothing that the law and all that it calls make is longer than what came in: it says more and counts as full. Else prove '..UptoSaid'. A law counts once. -/
mutual
def uptoBulk {H : Type} : DataW H → Nat
  | .lit (.string bytes) => bytes.length + 1
  | .lit _ => 1
  | .nil => 1
  | .ptr d => uptoBulk d + 1
  | .slice elems spare => uptoBulkAll elems + uptoBulkAll spare + 1
  | .agg parts => uptoBulkAll parts + 1
  | .iface _ d => uptoBulk d + 1
  | .map entries => uptoBulkEntries entries + 1
  | .held _ => 1
def uptoBulkAll {H : Type} : List (DataW H) → Nat
  | [] => 0
  | d :: r => uptoBulk d + uptoBulkAll r
def uptoBulkEntries {H : Type} : List (Lit × DataW H) → Nat
  | [] => 0
  | x :: r => uptoBulkEntry x + uptoBulkEntries r
def uptoBulkEntry {H : Type} : Lit × DataW H → Nat
  | (.string bytes, d) => bytes.length + uptoBulk d + 1
  | (_, d) => uptoBulk d + 1
 end
def uptoSmall : (H : Type) → List (DataW H) → Bool := fun _ ds => decide (uptoBulkAll ds ≤ 1048576)
def OpenSpec.upto (s : _root_.Go.ChangeSpec) : _root_.Go.OpenSpec := { _root_.Go.OpenSpec.ofChange s with cond := some uptoSmall }

/-- 'parquetlaw12.CellFours', WHERE WHAT IT READS IS OF BULK AT MOST 1048576: true; the input reads as it did. -/
def cellFoursUptoRow : OpenClaim := { program := "ytlcplkldielemaa", sum := "8a8584187e14a7134df1c1a12cedb2a4b13c2654dc939924227e230849908f5b", func := "parquet/parquetlaw12.CellFours", spec := "cellFours", named := ["math/bits.overflowError"], apart := false, narrowed := true }
def CellFoursUptoSaid : Prop := cellFoursUptoRow.holds Try.pinned (OpenSpec.upto cellFoursSpec)

/-- 'parquetlaw12.CellUps', WHERE WHAT IT READS IS OF BULK AT MOST 1048576: true; the input reads as it did. -/
def cellUpsUptoRow : OpenClaim := { program := "ytlcplkldielemaa", sum := "8a8584187e14a7134df1c1a12cedb2a4b13c2654dc939924227e230849908f5b", func := "parquet/parquetlaw12.CellUps", spec := "cellUps", named := ["math/bits.overflowError"], apart := false, narrowed := true }
def CellUpsUptoSaid : Prop := cellUpsUptoRow.holds Try.pinned (OpenSpec.upto cellUpsSpec)

/-- 'parquetlaw12.CellKeys', WHERE WHAT IT READS IS OF BULK AT MOST 1048576: true; the input reads as it did. -/
def cellKeysUptoRow : OpenClaim := { program := "ytlcplkldielemaa", sum := "8a8584187e14a7134df1c1a12cedb2a4b13c2654dc939924227e230849908f5b", func := "parquet/parquetlaw12.CellKeys", spec := "cellKeys", named := ["math/bits.overflowError"], apart := false, narrowed := true }
def CellKeysUptoSaid : Prop := cellKeysUptoRow.holds Try.pinned (OpenSpec.upto cellKeysSpec)

/-- 'parquetlaw12.CellBeside', WHERE WHAT IT READS IS OF BULK AT MOST 1048576: true; the input reads as it did. -/
def cellBesideUptoRow : OpenClaim := { program := "ytlcplkldielemaa", sum := "8a8584187e14a7134df1c1a12cedb2a4b13c2654dc939924227e230849908f5b", func := "parquet/parquetlaw12.CellBeside", spec := "cellBeside", named := ["math/bits.overflowError"], apart := false, narrowed := true }
def CellBesideUptoSaid : Prop := cellBesideUptoRow.holds Try.pinned (OpenSpec.upto cellBesideSpec)

end Rows
end Go.Proofs.Ytlcplkldielemaa
