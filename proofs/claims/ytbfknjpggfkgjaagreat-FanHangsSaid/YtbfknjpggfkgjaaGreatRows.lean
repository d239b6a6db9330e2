/-
  No cell of these rows narrows 'for every input' (looked for: loops, veiled, ifaces, maps, wideKeys, modest, calm, conditions, laid).
  DERIVED. THE GIVEN ROWS OF THIS SEAT. 5 by the template 'for every input the law returns true; each argument reads behind the call as it read before'; 0 by the template 'total and deterministic' (their statements: YtbfknjpggfkgjaaGreatTotals.lean).
  GIVEN WITH THE SEED: the statements are not yours to turn. If you find one false, say at which input.
  Laid BY PROGRAM, IN A SANDBOX (cutbox-rows.mjs): the forced cells as the released guide's own fill.sh prints them over the translation b950b19b8e62dadd… (all of the seat's roots in one cut). By AI agents, Wed Nov 11 2026. No macro, syntax, notation, axiom, sorry.
-/
import Derived.Test.YtbfknjpggfkgjaaGreatChecked
import GoSem.Claim
import GoSem.ClaimJoined
import GoSem.ClaimMapViews
import Derived.JoinedTies
import Derived.KernelRfl
namespace Go.Proofs.YtbfknjpggfkgjaaGreat
/- THE CELL 'sum', in the pinned program and in every row, IS THE sha256 OF THE DUMP (.gsa) THAT YtbfknjpggfkgjaaGreatProg.lean LOADS. Nothing in Lean hashes anything: it is a label: what it is worth is what the hold of that sum in a sandbox is worth. -/
noncomputable def Tryz.pinned : Pinned := { name := "ytbfknjpggfkgjaagreat", sum := "b950b19b8e62dadd021d58a0bbfa3c0abd12c6d5af3535c636ad8ed65c73f3c1", checked := Tryz.checked }
namespace Rows
def none {H : Type} : Left H := { results := [], args := [] }

/-- 'parquetlaw23.FanTells': WHATEVER THE INPUT: true; the input reads as it did. -/
def fanTellsSpec : ChangeSpec := { name := "fanTells", fn := fun _ => fun
  | [d1, d2, d3] => { results := [.lit (.bool true)], args := [d1, d2, d3] }
  | _ => none }
def fanTellsRow : OpenClaim := { program := "ytbfknjpggfkgjaagreat", sum := "b950b19b8e62dadd021d58a0bbfa3c0abd12c6d5af3535c636ad8ed65c73f3c1", func := "parquet/parquetlaw23.FanTells", spec := "fanTells", unfollowed := true, recurses := true, named := ["math/bits.overflowError"], apart := false }
def FanTellsSaid : Prop := fanTellsRow.holds Tryz.pinned (OpenSpec.ofChange fanTellsSpec)

/-- ITS FALSE NEIGHBOUR: 'it returns false'. Refute it at one input. -/
def fanTellsWrong : ChangeSpec := { name := "fanTells", fn := fun _ => fun
  | [d1, d2, d3] => { results := [.lit (.bool false)], args := [d1, d2, d3] }
  | _ => none }
def FanTellsWrongFalsely : Prop := fanTellsRow.holds Tryz.pinned (OpenSpec.ofChange fanTellsWrong)

/-- 'parquetlaw23.FanAreas': WHATEVER THE INPUT: true; the input reads as it did. -/
def fanAreasSpec : ChangeSpec := { name := "fanAreas", fn := fun _ => fun
  | [d1, d2, d3, d4] => { results := [.lit (.bool true)], args := [d1, d2, d3, d4] }
  | _ => none }
def fanAreasRow : OpenClaim := { program := "ytbfknjpggfkgjaagreat", sum := "b950b19b8e62dadd021d58a0bbfa3c0abd12c6d5af3535c636ad8ed65c73f3c1", func := "parquet/parquetlaw23.FanAreas", spec := "fanAreas", unfollowed := true, recurses := true, named := ["math/bits.overflowError"], apart := false }
def FanAreasSaid : Prop := fanAreasRow.holds Tryz.pinned (OpenSpec.ofChange fanAreasSpec)

/-- ITS FALSE NEIGHBOUR: 'it returns false'. Refute it at one input. -/
def fanAreasWrong : ChangeSpec := { name := "fanAreas", fn := fun _ => fun
  | [d1, d2, d3, d4] => { results := [.lit (.bool false)], args := [d1, d2, d3, d4] }
  | _ => none }
def FanAreasWrongFalsely : Prop := fanAreasRow.holds Tryz.pinned (OpenSpec.ofChange fanAreasWrong)

/-- 'parquetlaw23.FanSquares': WHATEVER THE INPUT: true; the input reads as it did. -/
def fanSquaresSpec : ChangeSpec := { name := "fanSquares", fn := fun _ => fun
  | [d1, d2, d3] => { results := [.lit (.bool true)], args := [d1, d2, d3] }
  | _ => none }
def fanSquaresRow : OpenClaim := { program := "ytbfknjpggfkgjaagreat", sum := "b950b19b8e62dadd021d58a0bbfa3c0abd12c6d5af3535c636ad8ed65c73f3c1", func := "parquet/parquetlaw23.FanSquares", spec := "fanSquares", unfollowed := true, recurses := true, named := ["math/bits.overflowError"], apart := false }
def FanSquaresSaid : Prop := fanSquaresRow.holds Tryz.pinned (OpenSpec.ofChange fanSquaresSpec)

/-- ITS FALSE NEIGHBOUR: 'it returns false'. Refute it at one input. -/
def fanSquaresWrong : ChangeSpec := { name := "fanSquares", fn := fun _ => fun
  | [d1, d2, d3] => { results := [.lit (.bool false)], args := [d1, d2, d3] }
  | _ => none }
def FanSquaresWrongFalsely : Prop := fanSquaresRow.holds Tryz.pinned (OpenSpec.ofChange fanSquaresWrong)

/-- 'parquetlaw23.FanHangs': WHATEVER THE INPUT: true; the input reads as it did. -/
def fanHangsSpec : ChangeSpec := { name := "fanHangs", fn := fun _ => fun
  | [d1, d2] => { results := [.lit (.bool true)], args := [d1, d2] }
  | _ => none }
def fanHangsRow : OpenClaim := { program := "ytbfknjpggfkgjaagreat", sum := "b950b19b8e62dadd021d58a0bbfa3c0abd12c6d5af3535c636ad8ed65c73f3c1", func := "parquet/parquetlaw23.FanHangs", spec := "fanHangs", unfollowed := true, recurses := true, named := ["math/bits.overflowError"], apart := false }
def FanHangsSaid : Prop := fanHangsRow.holds Tryz.pinned (OpenSpec.ofChange fanHangsSpec)

/-- ITS FALSE NEIGHBOUR: 'it returns false'. Refute it at one input. -/
def fanHangsWrong : ChangeSpec := { name := "fanHangs", fn := fun _ => fun
  | [d1, d2] => { results := [.lit (.bool false)], args := [d1, d2] }
  | _ => none }
def FanHangsWrongFalsely : Prop := fanHangsRow.holds Tryz.pinned (OpenSpec.ofChange fanHangsWrong)

/-- 'parquetlaw23.FanMeshes': WHATEVER THE INPUT: true; the input reads as it did. -/
def fanMeshesSpec : ChangeSpec := { name := "fanMeshes", fn := fun _ => fun
  | [d1, d2, d3] => { results := [.lit (.bool true)], args := [d1, d2, d3] }
  | _ => none }
def fanMeshesRow : OpenClaim := { program := "ytbfknjpggfkgjaagreat", sum := "b950b19b8e62dadd021d58a0bbfa3c0abd12c6d5af3535c636ad8ed65c73f3c1", func := "parquet/parquetlaw23.FanMeshes", spec := "fanMeshes", unfollowed := true, recurses := true, named := ["math/bits.overflowError"], apart := false }
def FanMeshesSaid : Prop := fanMeshesRow.holds Tryz.pinned (OpenSpec.ofChange fanMeshesSpec)

/-- ITS FALSE NEIGHBOUR: 'it returns false'. Refute it at one input. -/
def fanMeshesWrong : ChangeSpec := { name := "fanMeshes", fn := fun _ => fun
  | [d1, d2, d3] => { results := [.lit (.bool false)], args := [d1, d2, d3] }
  | _ => none }
def FanMeshesWrongFalsely : Prop := fanMeshesRow.holds Tryz.pinned (OpenSpec.ofChange fanMeshesWrong)

/- THE SECOND FORM. 'bulk': how many values and letters a reading holds, each counted each time it is reached (what is shared counts as often as it is met; a slice's spare places count too). A statement '..UptoSaid' is the law's where the arguments, and the package variables that the reading takes, are together of bulk at most 1048576: NARROWER than '..Said'. Prove '..Said' where nothing that the law and all that it calls make is longer than what came in: it says more and counts as full. Else prove '..UptoSaid'. A law counts once. -/
mutual
def uptoBulk {H : Type} : DataW H → Nat
  | .lit (.string bytes) => bytes.length + 1
  | .lit _ => 1
  | .nil => 1
  | .ptr d => uptoBulk d + 1
  | .slice elems spare => uptoBulkAll elems + uptoBulkAll spare + 1
  | .agg parts => uptoBulkAll parts + 1
  | .iface _ d => uptoBulk d + 1
  | .map entries => uptoBulkEntries entries + 1
  | .held _ => 1
def uptoBulkAll {H : Type} : List (DataW H) → Nat
  | [] => 0
  | d :: r => uptoBulk d + uptoBulkAll r
def uptoBulkEntries {H : Type} : List (Lit × DataW H) → Nat
  | [] => 0
  | x :: r => uptoBulkEntry x + uptoBulkEntries r
def uptoBulkEntry {H : Type} : Lit × DataW H → Nat
  | (.string bytes, d) => bytes.length + uptoBulk d + 1
  | (_, d) => uptoBulk d + 1
 end
def uptoSmall : (H : Type) → List (DataW H) → Bool := fun _ ds => decide (uptoBulkAll ds ≤ 1048576)
def OpenSpec.upto (s : _root_.Go.ChangeSpec) : _root_.Go.OpenSpec := { _root_.Go.OpenSpec.ofChange s with cond := some uptoSmall }

/-- 'parquetlaw23.FanTells', WHERE WHAT IT READS IS OF BULK AT MOST 1048576: true; the input reads as it did. -/
def fanTellsUptoRow : OpenClaim := { program := "ytbfknjpggfkgjaagreat", sum := "b950b19b8e62dadd021d58a0bbfa3c0abd12c6d5af3535c636ad8ed65c73f3c1", func := "parquet/parquetlaw23.FanTells", spec := "fanTells", unfollowed := true, recurses := true, named := ["math/bits.overflowError"], apart := false, narrowed := true }
def FanTellsUptoSaid : Prop := fanTellsUptoRow.holds Tryz.pinned (OpenSpec.upto fanTellsSpec)

/-- 'parquetlaw23.FanAreas', WHERE WHAT IT READS IS OF BULK AT MOST 1048576: true; the input reads as it did. -/
def fanAreasUptoRow : OpenClaim := { program := "ytbfknjpggfkgjaagreat", sum := "b950b19b8e62dadd021d58a0bbfa3c0abd12c6d5af3535c636ad8ed65c73f3c1", func := "parquet/parquetlaw23.FanAreas", spec := "fanAreas", unfollowed := true, recurses := true, named := ["math/bits.overflowError"], apart := false, narrowed := true }
def FanAreasUptoSaid : Prop := fanAreasUptoRow.holds Tryz.pinned (OpenSpec.upto fanAreasSpec)

/-- 'parquetlaw23.FanSquares', WHERE WHAT IT READS IS OF BULK AT MOST 1048576: true; the input reads as it did. -/
def fanSquaresUptoRow : OpenClaim := { program := "ytbfknjpggfkgjaagreat", sum := "b950b19b8e62dadd021d58a0bbfa3c0abd12c6d5af3535c636ad8ed65c73f3c1", func := "parquet/parquetlaw23.FanSquares", spec := "fanSquares", unfollowed := true, recurses := true, named := ["math/bits.overflowError"], apart := false, narrowed := true }
def FanSquaresUptoSaid : Prop := fanSquaresUptoRow.holds Tryz.pinned (OpenSpec.upto fanSquaresSpec)

/-- 'parquetlaw23.FanHangs', WHERE WHAT IT READS IS OF BULK AT MOST 1048576: true; the input reads as it did. -/
def fanHangsUptoRow : OpenClaim := { program := "ytbfknjpggfkgjaagreat", sum := "b950b19b8e62dadd021d58a0bbfa3c0abd12c6d5af3535c636ad8ed65c73f3c1", func := "parquet/parquetlaw23.FanHangs", spec := "fanHangs", unfollowed := true, recurses := true, named := ["math/bits.overflowError"], apart := false, narrowed := true }
def FanHangsUptoSaid : Prop := fanHangsUptoRow.holds Tryz.pinned (OpenSpec.upto fanHangsSpec)

/-- 'parquetlaw23.FanMeshes', WHERE WHAT IT READS IS OF BULK AT MOST 1048576: true; the input reads as it did. -/
def fanMeshesUptoRow : OpenClaim := { program := "ytbfknjpggfkgjaagreat", sum := "b950b19b8e62dadd021d58a0bbfa3c0abd12c6d5af3535c636ad8ed65c73f3c1", func := "parquet/parquetlaw23.FanMeshes", spec := "fanMeshes", unfollowed := true, recurses := true, named := ["math/bits.overflowError"], apart := false, narrowed := true }
def FanMeshesUptoSaid : Prop := fanMeshesUptoRow.holds Tryz.pinned (OpenSpec.upto fanMeshesSpec)

end Rows
end Go.Proofs.YtbfknjpggfkgjaaGreat
