/-
  No cell of these rows narrows 'for every input' (looked for: loops, veiled, ifaces, maps, wideKeys, modest, calm, conditions, laid).
  DERIVED. THE GIVEN ROWS OF THIS SEAT. 6 by the template 'for every input the law returns true; each argument reads behind the call as it read before'; 0 by the template 'total and deterministic' (their statements: YtjjmpghdjoohfaaGreatTotals.lean).
  GIVEN WITH THE SEED: the statements are not yours to turn. If you find one false, say at which input.
  Laid BY PROGRAM, IN A SANDBOX (cutbox-rows.mjs): the forced cells as the released guide's own fill.sh prints them over the translation 6e210eff75896583… (all of the seat's roots in one cut). By AI agents, Wed Nov 11 2026. No macro, syntax, notation, axiom, sorry.
-/
import Derived.Test.YtjjmpghdjoohfaaGreatChecked
import GoSem.Claim
import GoSem.ClaimJoined
import GoSem.ClaimMapViews
import Derived.JoinedTies
import Derived.KernelRfl
namespace Go.Proofs.YtjjmpghdjoohfaaGreat
/- THE CELL 'sum', in the pinned program and in every row, IS THE sha256 OF THE DUMP (.gsa) THAT YtjjmpghdjoohfaaGreatProg.lean LOADS. Nothing in Lean hashes anything: it is a label: what it is worth is what the hold of that sum in a sandbox is worth. -/
noncomputable def Tryz.pinned : Pinned := { name := "ytjjmpghdjoohfaagreat", sum := "6e210eff758965837e51f69a45a9d90d41a1a338e47b717dd4507eddfa7dd68c", checked := Tryz.checked }
namespace Rows
def none {H : Type} : Left H := { results := [], args := [] }

/-- 'parquetlaw4.LineTells': WHATEVER THE INPUT: true; the input reads as it did. -/
def lineTellsSpec : ChangeSpec := { name := "lineTells", fn := fun _ => fun
  | [d1, d2, d3, d4, d5, d6] => { results := [.lit (.bool true)], args := [d1, d2, d3, d4, d5, d6] }
  | _ => none }
def lineTellsRow : OpenClaim := { program := "ytjjmpghdjoohfaagreat", sum := "6e210eff758965837e51f69a45a9d90d41a1a338e47b717dd4507eddfa7dd68c", func := "parquet/parquetlaw4.LineTells", spec := "lineTells", unfollowed := true, recurses := true, named := ["math/bits.overflowError"], apart := false }
def LineTellsSaid : Prop := lineTellsRow.holds Tryz.pinned (OpenSpec.ofChange lineTellsSpec)

/-- ITS FALSE NEIGHBOUR: 'it returns false'. Refute it at one input. -/
def lineTellsWrong : ChangeSpec := { name := "lineTells", fn := fun _ => fun
  | [d1, d2, d3, d4, d5, d6] => { results := [.lit (.bool false)], args := [d1, d2, d3, d4, d5, d6] }
  | _ => none }
def LineTellsWrongFalsely : Prop := lineTellsRow.holds Tryz.pinned (OpenSpec.ofChange lineTellsWrong)

/-- 'parquetlaw4.LineHeights': WHATEVER THE INPUT: true; the input reads as it did. -/
def lineHeightsSpec : ChangeSpec := { name := "lineHeights", fn := fun _ => fun
  | [d1, d2, d3, d4, d5, d6] => { results := [.lit (.bool true)], args := [d1, d2, d3, d4, d5, d6] }
  | _ => none }
def lineHeightsRow : OpenClaim := { program := "ytjjmpghdjoohfaagreat", sum := "6e210eff758965837e51f69a45a9d90d41a1a338e47b717dd4507eddfa7dd68c", func := "parquet/parquetlaw4.LineHeights", spec := "lineHeights", unfollowed := true, recurses := true, named := ["math/bits.overflowError"], apart := false }
def LineHeightsSaid : Prop := lineHeightsRow.holds Tryz.pinned (OpenSpec.ofChange lineHeightsSpec)

/-- ITS FALSE NEIGHBOUR: 'it returns false'. Refute it at one input. -/
def lineHeightsWrong : ChangeSpec := { name := "lineHeights", fn := fun _ => fun
  | [d1, d2, d3, d4, d5, d6] => { results := [.lit (.bool false)], args := [d1, d2, d3, d4, d5, d6] }
  | _ => none }
def LineHeightsWrongFalsely : Prop := lineHeightsRow.holds Tryz.pinned (OpenSpec.ofChange lineHeightsWrong)

/-- 'parquetlaw5.TriTells': WHATEVER THE INPUT: true; the input reads as it did. -/
def triTellsSpec : ChangeSpec := { name := "triTells", fn := fun _ => fun
  | [d1, d2, d3, d4] => { results := [.lit (.bool true)], args := [d1, d2, d3, d4] }
  | _ => none }
def triTellsRow : OpenClaim := { program := "ytjjmpghdjoohfaagreat", sum := "6e210eff758965837e51f69a45a9d90d41a1a338e47b717dd4507eddfa7dd68c", func := "parquet/parquetlaw5.TriTells", spec := "triTells", named := ["math/bits.overflowError"], apart := false }
def TriTellsSaid : Prop := triTellsRow.holds Tryz.pinned (OpenSpec.ofChange triTellsSpec)

/-- ITS FALSE NEIGHBOUR: 'it returns false'. Refute it at one input. -/
def triTellsWrong : ChangeSpec := { name := "triTells", fn := fun _ => fun
  | [d1, d2, d3, d4] => { results := [.lit (.bool false)], args := [d1, d2, d3, d4] }
  | _ => none }
def TriTellsWrongFalsely : Prop := triTellsRow.holds Tryz.pinned (OpenSpec.ofChange triTellsWrong)

/-- 'parquetlaw5.TriCorners': WHATEVER THE INPUT: true; the input reads as it did. -/
def triCornersSpec : ChangeSpec := { name := "triCorners", fn := fun _ => fun
  | [d1, d2, d3] => { results := [.lit (.bool true)], args := [d1, d2, d3] }
  | _ => none }
def triCornersRow : OpenClaim := { program := "ytjjmpghdjoohfaagreat", sum := "6e210eff758965837e51f69a45a9d90d41a1a338e47b717dd4507eddfa7dd68c", func := "parquet/parquetlaw5.TriCorners", spec := "triCorners", named := ["math/bits.overflowError"], apart := false }
def TriCornersSaid : Prop := triCornersRow.holds Tryz.pinned (OpenSpec.ofChange triCornersSpec)

/-- ITS FALSE NEIGHBOUR: 'it returns false'. Refute it at one input. -/
def triCornersWrong : ChangeSpec := { name := "triCorners", fn := fun _ => fun
  | [d1, d2, d3] => { results := [.lit (.bool false)], args := [d1, d2, d3] }
  | _ => none }
def TriCornersWrongFalsely : Prop := triCornersRow.holds Tryz.pinned (OpenSpec.ofChange triCornersWrong)

/-- 'parquetlaw5.TriPlaces': WHATEVER THE INPUT: true; the input reads as it did. -/
def triPlacesSpec : ChangeSpec := { name := "triPlaces", fn := fun _ => fun
  | [d1, d2, d3] => { results := [.lit (.bool true)], args := [d1, d2, d3] }
  | _ => none }
def triPlacesRow : OpenClaim := { program := "ytjjmpghdjoohfaagreat", sum := "6e210eff758965837e51f69a45a9d90d41a1a338e47b717dd4507eddfa7dd68c", func := "parquet/parquetlaw5.TriPlaces", spec := "triPlaces", named := ["math/bits.overflowError"], apart := false }
def TriPlacesSaid : Prop := triPlacesRow.holds Tryz.pinned (OpenSpec.ofChange triPlacesSpec)

/-- ITS FALSE NEIGHBOUR: 'it returns false'. Refute it at one input. -/
def triPlacesWrong : ChangeSpec := { name := "triPlaces", fn := fun _ => fun
  | [d1, d2, d3] => { results := [.lit (.bool false)], args := [d1, d2, d3] }
  | _ => none }
def TriPlacesWrongFalsely : Prop := triPlacesRow.holds Tryz.pinned (OpenSpec.ofChange triPlacesWrong)

/-- 'parquetlaw5.TriSides': WHATEVER THE INPUT: true; the input reads as it did. -/
def triSidesSpec : ChangeSpec := { name := "triSides", fn := fun _ => fun
  | [d1, d2, d3, d4] => { results := [.lit (.bool true)], args := [d1, d2, d3, d4] }
  | _ => none }
def triSidesRow : OpenClaim := { program := "ytjjmpghdjoohfaagreat", sum := "6e210eff758965837e51f69a45a9d90d41a1a338e47b717dd4507eddfa7dd68c", func := "parquet/parquetlaw5.TriSides", spec := "triSides", named := ["math/bits.overflowError"], apart := false }
def TriSidesSaid : Prop := triSidesRow.holds Tryz.pinned (OpenSpec.ofChange triSidesSpec)

/-- ITS FALSE NEIGHBOUR: 'it returns false'. Refute it at one input. -/
def triSidesWrong : ChangeSpec := { name := "triSides", fn := fun _ => fun
  | [d1, d2, d3, d4] => { results := [.lit (.bool false)], args := [d1, d2, d3, d4] }
  | _ => none }
def TriSidesWrongFalsely : Prop := triSidesRow.holds Tryz.pinned (OpenSpec.ofChange triSidesWrong)

/- THE SECOND FORM. 'bulk': how many values and letters a reading holds, each counted each time it is reached (what is shared counts as often as it is met; a slice's spare places count too). A statement '..UptoSaid' is the law's where the arguments, and the package variables that the reading takes, are together of bulk at most 1048576: NARROWER than '..Said'. Prove '..Said' where nothing that the law and all that it calls make is longer than what came in: it says more and counts as full. Else prove '..UptoSaid'. A law counts once. -/
mutual
def uptoBulk {H : Type} : DataW H → Nat
  | .lit (.string bytes) => bytes.length + 1
  | .lit _ => 1
  | .nil => 1
  | .ptr d => uptoBulk d + 1
  | .slice elems spare => uptoBulkAll elems + uptoBulkAll spare + 1
  | .agg parts => uptoBulkAll parts + 1
  | .iface _ d => uptoBulk d + 1
  | .map entries => uptoBulkEntries entries + 1
  | .held _ => 1
def uptoBulkAll {H : Type} : List (DataW H) → Nat
  | [] => 0
  | d :: r => uptoBulk d + uptoBulkAll r
def uptoBulkEntries {H : Type} : List (Lit × DataW H) → Nat
  | [] => 0
  | x :: r => uptoBulkEntry x + uptoBulkEntries r
def uptoBulkEntry {H : Type} : Lit × DataW H → Nat
  | (.string bytes, d) => bytes.length + uptoBulk d + 1
  | (_, d) => uptoBulk d + 1
 end
def uptoSmall : (H : Type) → List (DataW H) → Bool := fun _ ds => decide (uptoBulkAll ds ≤ 1048576)
def OpenSpec.upto (s : _root_.Go.ChangeSpec) : _root_.Go.OpenSpec := { _root_.Go.OpenSpec.ofChange s with cond := some uptoSmall }

/-- 'parquetlaw4.LineTells', WHERE WHAT IT READS IS OF BULK AT MOST 1048576: true; the input reads as it did. -/
def lineTellsUptoRow : OpenClaim := { program := "ytjjmpghdjoohfaagreat", sum := "6e210eff758965837e51f69a45a9d90d41a1a338e47b717dd4507eddfa7dd68c", func := "parquet/parquetlaw4.LineTells", spec := "lineTells", unfollowed := true, recurses := true, named := ["math/bits.overflowError"], apart := false, narrowed := true }
def LineTellsUptoSaid : Prop := lineTellsUptoRow.holds Tryz.pinned (OpenSpec.upto lineTellsSpec)

/-- 'parquetlaw4.LineHeights', WHERE WHAT IT READS IS OF BULK AT MOST 1048576: true; the input reads as it did. -/
def lineHeightsUptoRow : OpenClaim := { program := "ytjjmpghdjoohfaagreat", sum := "6e210eff758965837e51f69a45a9d90d41a1a338e47b717dd4507eddfa7dd68c", func := "parquet/parquetlaw4.LineHeights", spec := "lineHeights", unfollowed := true, recurses := true, named := ["math/bits.overflowError"], apart := false, narrowed := true }
def LineHeightsUptoSaid : Prop := lineHeightsUptoRow.holds Tryz.pinned (OpenSpec.upto lineHeightsSpec)

/-- 'parquetlaw5.TriTells', WHERE WHAT IT READS IS OF BULK AT MOST 1048576: true; the input reads as it did. -/
def triTellsUptoRow : OpenClaim := { program := "ytjjmpghdjoohfaagreat", sum := "6e210eff758965837e51f69a45a9d90d41a1a338e47b717dd4507eddfa7dd68c", func := "parquet/parquetlaw5.TriTells", spec := "triTells", named := ["math/bits.overflowError"], apart := false, narrowed := true }
def TriTellsUptoSaid : Prop := triTellsUptoRow.holds Tryz.pinned (OpenSpec.upto triTellsSpec)

/-- 'parquetlaw5.TriCorners', WHERE WHAT IT READS IS OF BULK AT MOST 1048576: true; the input reads as it did. -/
def triCornersUptoRow : OpenClaim := { program := "ytjjmpghdjoohfaagreat", sum := "6e210eff758965837e51f69a45a9d90d41a1a338e47b717dd4507eddfa7dd68c", func := "parquet/parquetlaw5.TriCorners", spec := "triCorners", named := ["math/bits.overflowError"], apart := false, narrowed := true }
def TriCornersUptoSaid : Prop := triCornersUptoRow.holds Tryz.pinned (OpenSpec.upto triCornersSpec)

/-- 'parquetlaw5.TriPlaces', WHERE WHAT IT READS IS OF BULK AT MOST 1048576: true; the input reads as it did. -/
def triPlacesUptoRow : OpenClaim := { program := "ytjjmpghdjoohfaagreat", sum := "6e210eff758965837e51f69a45a9d90d41a1a338e47b717dd4507eddfa7dd68c", func := "parquet/parquetlaw5.TriPlaces", spec := "triPlaces", named := ["math/bits.overflowError"], apart := false, narrowed := true }
def TriPlacesUptoSaid : Prop := triPlacesUptoRow.holds Tryz.pinned (OpenSpec.upto triPlacesSpec)

/-- 'parquetlaw5.TriSides', WHERE WHAT IT READS IS OF BULK AT MOST 1048576: true; the input reads as it did. -/
def triSidesUptoRow : OpenClaim := { program := "ytjjmpghdjoohfaagreat", sum := "6e210eff758965837e51f69a45a9d90d41a1a338e47b717dd4507eddfa7dd68c", func := "parquet/parquetlaw5.TriSides", spec := "triSides", named := ["math/bits.overflowError"], apart := false, narrowed := true }
def TriSidesUptoSaid : Prop := triSidesUptoRow.holds Tryz.pinned (OpenSpec.upto triSidesSpec)

end Rows
end Go.Proofs.YtjjmpghdjoohfaaGreat
