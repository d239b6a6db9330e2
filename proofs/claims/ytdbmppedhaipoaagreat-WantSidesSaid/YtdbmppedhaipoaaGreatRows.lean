/-
  No cell of these rows narrows 'for every input' (looked for: loops, veiled, ifaces, maps, wideKeys, modest, calm, conditions, laid).
  DERIVED. THE GIVEN ROWS OF THIS SEAT. 7 by the template 'for every input the law returns true; each argument reads behind the call as it read before'; 0 by the template 'total and deterministic' (their statements: YtdbmppedhaipoaaGreatTotals.lean).
  GIVEN WITH THE SEED: the statements are not yours to turn. If you find one false, say at which input.
  Laid BY PROGRAM, IN A SANDBOX (cutbox-rows.mjs): the forced cells as the released guide's own fill.sh prints them over the translation 074ecac599122a07… (all of the seat's roots in one cut). By AI agents, Wed Nov 11 2026. No macro, syntax, notation, axiom, sorry.
-/
import Derived.Test.YtdbmppedhaipoaaGreatChecked
import GoSem.Claim
import GoSem.ClaimJoined
import GoSem.ClaimMapViews
import Derived.JoinedTies
import Derived.KernelRfl
namespace Go.Proofs.YtdbmppedhaipoaaGreat
/- THE CELL 'sum', in the pinned program and in every row, IS THE sha256 OF THE DUMP (.gsa) THAT YtdbmppedhaipoaaGreatProg.lean LOADS. Nothing in Lean hashes anything: it is a label: what it is worth is what the hold of that sum in a sandbox is worth. -/
noncomputable def Tryz.pinned : Pinned := { name := "ytdbmppedhaipoaagreat", sum := "074ecac599122a07324668c63d6d4f9a16f6f4eaad1290cb07ad5fb452de276c", checked := Tryz.checked }
namespace Rows
def none {H : Type} : Left H := { results := [], args := [] }

/-- 'parquetlaw14.TouchTells': WHATEVER THE INPUT: true; the input reads as it did. -/
def touchTellsSpec : ChangeSpec := { name := "touchTells", fn := fun _ => fun
  | [d1, d2, d3, d4] => { results := [.lit (.bool true)], args := [d1, d2, d3, d4] }
  | _ => none }
def touchTellsRow : OpenClaim := { program := "ytdbmppedhaipoaagreat", sum := "074ecac599122a07324668c63d6d4f9a16f6f4eaad1290cb07ad5fb452de276c", func := "parquet/parquetlaw14.TouchTells", spec := "touchTells", unfollowed := true, recurses := true, named := ["math/bits.overflowError"], apart := false }
def TouchTellsSaid : Prop := touchTellsRow.holds Tryz.pinned (OpenSpec.ofChange touchTellsSpec)

/-- ITS FALSE NEIGHBOUR: 'it returns false'. Refute it at one input. -/
def touchTellsWrong : ChangeSpec := { name := "touchTells", fn := fun _ => fun
  | [d1, d2, d3, d4] => { results := [.lit (.bool false)], args := [d1, d2, d3, d4] }
  | _ => none }
def TouchTellsWrongFalsely : Prop := touchTellsRow.holds Tryz.pinned (OpenSpec.ofChange touchTellsWrong)

/-- 'parquetlaw14.TouchParts': WHATEVER THE INPUT: true; the input reads as it did. -/
def touchPartsSpec : ChangeSpec := { name := "touchParts", fn := fun _ => fun
  | [d1, d2, d3] => { results := [.lit (.bool true)], args := [d1, d2, d3] }
  | _ => none }
def touchPartsRow : OpenClaim := { program := "ytdbmppedhaipoaagreat", sum := "074ecac599122a07324668c63d6d4f9a16f6f4eaad1290cb07ad5fb452de276c", func := "parquet/parquetlaw14.TouchParts", spec := "touchParts", unfollowed := true, recurses := true, named := ["math/bits.overflowError"], apart := false }
def TouchPartsSaid : Prop := touchPartsRow.holds Tryz.pinned (OpenSpec.ofChange touchPartsSpec)

/-- ITS FALSE NEIGHBOUR: 'it returns false'. Refute it at one input. -/
def touchPartsWrong : ChangeSpec := { name := "touchParts", fn := fun _ => fun
  | [d1, d2, d3] => { results := [.lit (.bool false)], args := [d1, d2, d3] }
  | _ => none }
def TouchPartsWrongFalsely : Prop := touchPartsRow.holds Tryz.pinned (OpenSpec.ofChange touchPartsWrong)

/-- 'parquetlaw14.TouchPoints': WHATEVER THE INPUT: true; the input reads as it did. -/
def touchPointsSpec : ChangeSpec := { name := "touchPoints", fn := fun _ => fun
  | [d1, d2, d3, d4, d5, d6, d7] => { results := [.lit (.bool true)], args := [d1, d2, d3, d4, d5, d6, d7] }
  | _ => none }
def touchPointsRow : OpenClaim := { program := "ytdbmppedhaipoaagreat", sum := "074ecac599122a07324668c63d6d4f9a16f6f4eaad1290cb07ad5fb452de276c", func := "parquet/parquetlaw14.TouchPoints", spec := "touchPoints", unfollowed := true, recurses := true, named := ["math/bits.overflowError"], apart := false }
def TouchPointsSaid : Prop := touchPointsRow.holds Tryz.pinned (OpenSpec.ofChange touchPointsSpec)

/-- ITS FALSE NEIGHBOUR: 'it returns false'. Refute it at one input. -/
def touchPointsWrong : ChangeSpec := { name := "touchPoints", fn := fun _ => fun
  | [d1, d2, d3, d4, d5, d6, d7] => { results := [.lit (.bool false)], args := [d1, d2, d3, d4, d5, d6, d7] }
  | _ => none }
def TouchPointsWrongFalsely : Prop := touchPointsRow.holds Tryz.pinned (OpenSpec.ofChange touchPointsWrong)

/-- 'parquetlaw14.TouchAway': WHATEVER THE INPUT: true; the input reads as it did. -/
def touchAwaySpec : ChangeSpec := { name := "touchAway", fn := fun _ => fun
  | [d1, d2, d3, d4, d5] => { results := [.lit (.bool true)], args := [d1, d2, d3, d4, d5] }
  | _ => none }
def touchAwayRow : OpenClaim := { program := "ytdbmppedhaipoaagreat", sum := "074ecac599122a07324668c63d6d4f9a16f6f4eaad1290cb07ad5fb452de276c", func := "parquet/parquetlaw14.TouchAway", spec := "touchAway", unfollowed := true, recurses := true, named := ["math/bits.overflowError"], apart := false }
def TouchAwaySaid : Prop := touchAwayRow.holds Tryz.pinned (OpenSpec.ofChange touchAwaySpec)

/-- ITS FALSE NEIGHBOUR: 'it returns false'. Refute it at one input. -/
def touchAwayWrong : ChangeSpec := { name := "touchAway", fn := fun _ => fun
  | [d1, d2, d3, d4, d5] => { results := [.lit (.bool false)], args := [d1, d2, d3, d4, d5] }
  | _ => none }
def TouchAwayWrongFalsely : Prop := touchAwayRow.holds Tryz.pinned (OpenSpec.ofChange touchAwayWrong)

/-- 'parquetlaw15.WantTells': WHATEVER THE INPUT: true; the input reads as it did. -/
def wantTellsSpec : ChangeSpec := { name := "wantTells", fn := fun _ => fun
  | [d1, d2, d3] => { results := [.lit (.bool true)], args := [d1, d2, d3] }
  | _ => none }
def wantTellsRow : OpenClaim := { program := "ytdbmppedhaipoaagreat", sum := "074ecac599122a07324668c63d6d4f9a16f6f4eaad1290cb07ad5fb452de276c", func := "parquet/parquetlaw15.WantTells", spec := "wantTells", unfollowed := true, recurses := true, named := ["math/bits.overflowError"], apart := false }
def WantTellsSaid : Prop := wantTellsRow.holds Tryz.pinned (OpenSpec.ofChange wantTellsSpec)

/-- ITS FALSE NEIGHBOUR: 'it returns false'. Refute it at one input. -/
def wantTellsWrong : ChangeSpec := { name := "wantTells", fn := fun _ => fun
  | [d1, d2, d3] => { results := [.lit (.bool false)], args := [d1, d2, d3] }
  | _ => none }
def WantTellsWrongFalsely : Prop := wantTellsRow.holds Tryz.pinned (OpenSpec.ofChange wantTellsWrong)

/-- 'parquetlaw15.WantUp': WHATEVER THE INPUT: true; the input reads as it did. -/
def wantUpSpec : ChangeSpec := { name := "wantUp", fn := fun _ => fun
  | [d1, d2, d3] => { results := [.lit (.bool true)], args := [d1, d2, d3] }
  | _ => none }
def wantUpRow : OpenClaim := { program := "ytdbmppedhaipoaagreat", sum := "074ecac599122a07324668c63d6d4f9a16f6f4eaad1290cb07ad5fb452de276c", func := "parquet/parquetlaw15.WantUp", spec := "wantUp", unfollowed := true, recurses := true, named := ["math/bits.overflowError"], apart := false }
def WantUpSaid : Prop := wantUpRow.holds Tryz.pinned (OpenSpec.ofChange wantUpSpec)

/-- ITS FALSE NEIGHBOUR: 'it returns false'. Refute it at one input. -/
def wantUpWrong : ChangeSpec := { name := "wantUp", fn := fun _ => fun
  | [d1, d2, d3] => { results := [.lit (.bool false)], args := [d1, d2, d3] }
  | _ => none }
def WantUpWrongFalsely : Prop := wantUpRow.holds Tryz.pinned (OpenSpec.ofChange wantUpWrong)

/-- 'parquetlaw15.WantSides': WHATEVER THE INPUT: true; the input reads as it did. -/
def wantSidesSpec : ChangeSpec := { name := "wantSides", fn := fun _ => fun
  | [d1, d2, d3] => { results := [.lit (.bool true)], args := [d1, d2, d3] }
  | _ => none }
def wantSidesRow : OpenClaim := { program := "ytdbmppedhaipoaagreat", sum := "074ecac599122a07324668c63d6d4f9a16f6f4eaad1290cb07ad5fb452de276c", func := "parquet/parquetlaw15.WantSides", spec := "wantSides", unfollowed := true, recurses := true, named := ["math/bits.overflowError"], apart := false }
def WantSidesSaid : Prop := wantSidesRow.holds Tryz.pinned (OpenSpec.ofChange wantSidesSpec)

/-- ITS FALSE NEIGHBOUR: 'it returns false'. Refute it at one input. -/
def wantSidesWrong : ChangeSpec := { name := "wantSides", fn := fun _ => fun
  | [d1, d2, d3] => { results := [.lit (.bool false)], args := [d1, d2, d3] }
  | _ => none }
def WantSidesWrongFalsely : Prop := wantSidesRow.holds Tryz.pinned (OpenSpec.ofChange wantSidesWrong)

/- THE SECOND FORM. 'bulk': how many values and letters a reading holds, each counted each time it is reached (what is shared counts as often as it is met; a slice's spare places count too). A statement '..UptoSaid' is the law's where the arguments, and the package variables that the reading takes, are together of bulk at most 1048576: NARROWER than '..Said'. Prove '..Said' where nothing that the law and all that it calls make is longer than what came in: it says more and counts as full. Else prove '..UptoSaid'. A law counts once. -/
mutual
def uptoBulk {H : Type} : DataW H → Nat
  | .lit (.string bytes) => bytes.length + 1
  | .lit _ => 1
  | .nil => 1
  | .ptr d => uptoBulk d + 1
  | .slice elems spare => uptoBulkAll elems + uptoBulkAll spare + 1
  | .agg parts => uptoBulkAll parts + 1
  | .iface _ d => uptoBulk d + 1
  | .map entries => uptoBulkEntries entries + 1
  | .held _ => 1
def uptoBulkAll {H : Type} : List (DataW H) → Nat
  | [] => 0
  | d :: r => uptoBulk d + uptoBulkAll r
def uptoBulkEntries {H : Type} : List (Lit × DataW H) → Nat
  | [] => 0
  | x :: r => uptoBulkEntry x + uptoBulkEntries r
def uptoBulkEntry {H : Type} : Lit × DataW H → Nat
  | (.string bytes, d) => bytes.length + uptoBulk d + 1
  | (_, d) => uptoBulk d + 1
 end
def uptoSmall : (H : Type) → List (DataW H) → Bool := fun _ ds => decide (uptoBulkAll ds ≤ 1048576)
def OpenSpec.upto (s : _root_.Go.ChangeSpec) : _root_.Go.OpenSpec := { _root_.Go.OpenSpec.ofChange s with cond := some uptoSmall }

/-- 'parquetlaw14.TouchTells', WHERE WHAT IT READS IS OF BULK AT MOST 1048576: true; the input reads as it did. -/
def touchTellsUptoRow : OpenClaim := { program := "ytdbmppedhaipoaagreat", sum := "074ecac599122a07324668c63d6d4f9a16f6f4eaad1290cb07ad5fb452de276c", func := "parquet/parquetlaw14.TouchTells", spec := "touchTells", unfollowed := true, recurses := true, named := ["math/bits.overflowError"], apart := false, narrowed := true }
def TouchTellsUptoSaid : Prop := touchTellsUptoRow.holds Tryz.pinned (OpenSpec.upto touchTellsSpec)

/-- 'parquetlaw14.TouchParts', WHERE WHAT IT READS IS OF BULK AT MOST 1048576: true; the input reads as it did. -/
def touchPartsUptoRow : OpenClaim := { program := "ytdbmppedhaipoaagreat", sum := "074ecac599122a07324668c63d6d4f9a16f6f4eaad1290cb07ad5fb452de276c", func := "parquet/parquetlaw14.TouchParts", spec := "touchParts", unfollowed := true, recurses := true, named := ["math/bits.overflowError"], apart := false, narrowed := true }
def TouchPartsUptoSaid : Prop := touchPartsUptoRow.holds Tryz.pinned (OpenSpec.upto touchPartsSpec)

/-- 'parquetlaw14.TouchPoints', WHERE WHAT IT READS IS OF BULK AT MOST 1048576: true; the input reads as it did. -/
def touchPointsUptoRow : OpenClaim := { program := "ytdbmppedhaipoaagreat", sum := "074ecac599122a07324668c63d6d4f9a16f6f4eaad1290cb07ad5fb452de276c", func := "parquet/parquetlaw14.TouchPoints", spec := "touchPoints", unfollowed := true, recurses := true, named := ["math/bits.overflowError"], apart := false, narrowed := true }
def TouchPointsUptoSaid : Prop := touchPointsUptoRow.holds Tryz.pinned (OpenSpec.upto touchPointsSpec)

/-- 'parquetlaw14.TouchAway', WHERE WHAT IT READS IS OF BULK AT MOST 1048576: true; the input reads as it did. -/
def touchAwayUptoRow : OpenClaim := { program := "ytdbmppedhaipoaagreat", sum := "074ecac599122a07324668c63d6d4f9a16f6f4eaad1290cb07ad5fb452de276c", func := "parquet/parquetlaw14.TouchAway", spec := "touchAway", unfollowed := true, recurses := true, named := ["math/bits.overflowError"], apart := false, narrowed := true }
def TouchAwayUptoSaid : Prop := touchAwayUptoRow.holds Tryz.pinned (OpenSpec.upto touchAwaySpec)

/-- 'parquetlaw15.WantTells', WHERE WHAT IT READS IS OF BULK AT MOST 1048576: true; the input reads as it did. -/
def wantTellsUptoRow : OpenClaim := { program := "ytdbmppedhaipoaagreat", sum := "074ecac599122a07324668c63d6d4f9a16f6f4eaad1290cb07ad5fb452de276c", func := "parquet/parquetlaw15.WantTells", spec := "wantTells", unfollowed := true, recurses := true, named := ["math/bits.overflowError"], apart := false, narrowed := true }
def WantTellsUptoSaid : Prop := wantTellsUptoRow.holds Tryz.pinned (OpenSpec.upto wantTellsSpec)

/-- 'parquetlaw15.WantUp', WHERE WHAT IT READS IS OF BULK AT MOST 1048576: true; the input reads as it did. -/
def wantUpUptoRow : OpenClaim := { program := "ytdbmppedhaipoaagreat", sum := "074ecac599122a07324668c63d6d4f9a16f6f4eaad1290cb07ad5fb452de276c", func := "parquet/parquetlaw15.WantUp", spec := "wantUp", unfollowed := true, recurses := true, named := ["math/bits.overflowError"], apart := false, narrowed := true }
def WantUpUptoSaid : Prop := wantUpUptoRow.holds Tryz.pinned (OpenSpec.upto wantUpSpec)

/-- 'parquetlaw15.WantSides', WHERE WHAT IT READS IS OF BULK AT MOST 1048576: true; the input reads as it did. -/
def wantSidesUptoRow : OpenClaim := { program := "ytdbmppedhaipoaagreat", sum := "074ecac599122a07324668c63d6d4f9a16f6f4eaad1290cb07ad5fb452de276c", func := "parquet/parquetlaw15.WantSides", spec := "wantSides", unfollowed := true, recurses := true, named := ["math/bits.overflowError"], apart := false, narrowed := true }
def WantSidesUptoSaid : Prop := wantSidesUptoRow.holds Tryz.pinned (OpenSpec.upto wantSidesSpec)

end Rows
end Go.Proofs.YtdbmppedhaipoaaGreat
