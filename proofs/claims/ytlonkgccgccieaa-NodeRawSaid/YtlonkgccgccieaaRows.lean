/-
  No cell of these rows narrows 'for every input' (looked for: loops, veiled, ifaces, maps, wideKeys, modest, calm, conditions, laid).
  DERIVED. THE GIVEN ROWS OF THIS SEAT. 9 by the template 'for every input the law returns true; each argument reads behind the call as it read before'; 0 by the template 'total and deterministic' (their statements: YtlonkgccgccieaaTotals.lean).
  GIVEN WITH THE SEED: the statements are not yours to turn. If you find one false, say at which input.
  Laid BY PROGRAM, IN A SANDBOX (cutbox-rows.mjs): the forced cells as the released guide's own fill.sh prints them over the translation 44bb20988f38b007… (all of the seat's roots in one cut). By AI agents, Wed Nov 11 2026. No macro, syntax, notation, axiom, sorry.
-/
import Derived.Test.YtlonkgccgccieaaChecked
import GoSem.Claim
import GoSem.ClaimJoined
import GoSem.ClaimMapViews
import Derived.JoinedTies
import Derived.KernelRfl
namespace Go.Proofs.Ytlonkgccgccieaa
/- THE CELL 'sum', in the pinned program and in every row, IS THE sha256 OF THE DUMP (.gsa) THAT YtlonkgccgccieaaProg.lean LOADS. Nothing in Lean hashes anything: it is a label: what it is worth is what the hold of that sum in a sandbox is worth. -/
noncomputable def Try.pinned : Pinned := { name := "ytlonkgccgccieaa", sum := "44bb20988f38b007b10e94d802650a011eba5d8b96fd6dc51477faea2edc8470", checked := Try.checked }
namespace Rows
def none {H : Type} : Left H := { results := [], args := [] }

/-- 'parquetlaw13.TreePlays': WHATEVER THE INPUT: true; the input reads as it did. -/
def treePlaysSpec : ChangeSpec := { name := "treePlays", fn := fun _ => fun
  | [d1, d2, d3, d4] => { results := [.lit (.bool true)], args := [d1, d2, d3, d4] }
  | _ => none }
def treePlaysRow : OpenClaim := { program := "ytlonkgccgccieaa", sum := "44bb20988f38b007b10e94d802650a011eba5d8b96fd6dc51477faea2edc8470", func := "parquet/parquetlaw13.TreePlays", spec := "treePlays", unfollowed := true, recurses := true, plainKeys := false, apart := false }
def TreePlaysSaid : Prop := treePlaysRow.holds Try.pinned (OpenSpec.ofChange treePlaysSpec)

/-- ITS FALSE NEIGHBOUR: 'it returns false'. Refute it at one input. -/
def treePlaysWrong : ChangeSpec := { name := "treePlays", fn := fun _ => fun
  | [d1, d2, d3, d4] => { results := [.lit (.bool false)], args := [d1, d2, d3, d4] }
  | _ => none }
def TreePlaysWrongFalsely : Prop := treePlaysRow.holds Try.pinned (OpenSpec.ofChange treePlaysWrong)

/-- 'parquetlaw13.TreeCovers': WHATEVER THE INPUT: true; the input reads as it did. -/
def treeCoversSpec : ChangeSpec := { name := "treeCovers", fn := fun _ => fun
  | [d1, d2, d3] => { results := [.lit (.bool true)], args := [d1, d2, d3] }
  | _ => none }
def treeCoversRow : OpenClaim := { program := "ytlonkgccgccieaa", sum := "44bb20988f38b007b10e94d802650a011eba5d8b96fd6dc51477faea2edc8470", func := "parquet/parquetlaw13.TreeCovers", spec := "treeCovers", unfollowed := true, recurses := true, plainKeys := false, apart := false }
def TreeCoversSaid : Prop := treeCoversRow.holds Try.pinned (OpenSpec.ofChange treeCoversSpec)

/-- ITS FALSE NEIGHBOUR: 'it returns false'. Refute it at one input. -/
def treeCoversWrong : ChangeSpec := { name := "treeCovers", fn := fun _ => fun
  | [d1, d2, d3] => { results := [.lit (.bool false)], args := [d1, d2, d3] }
  | _ => none }
def TreeCoversWrongFalsely : Prop := treeCoversRow.holds Try.pinned (OpenSpec.ofChange treeCoversWrong)

/-- 'parquetlaw13.TreeSides': WHATEVER THE INPUT: true; the input reads as it did. -/
def treeSidesSpec : ChangeSpec := { name := "treeSides", fn := fun _ => fun
  | [d1, d2, d3] => { results := [.lit (.bool true)], args := [d1, d2, d3] }
  | _ => none }
def treeSidesRow : OpenClaim := { program := "ytlonkgccgccieaa", sum := "44bb20988f38b007b10e94d802650a011eba5d8b96fd6dc51477faea2edc8470", func := "parquet/parquetlaw13.TreeSides", spec := "treeSides", unfollowed := true, recurses := true, plainKeys := false, apart := false }
def TreeSidesSaid : Prop := treeSidesRow.holds Try.pinned (OpenSpec.ofChange treeSidesSpec)

/-- ITS FALSE NEIGHBOUR: 'it returns false'. Refute it at one input. -/
def treeSidesWrong : ChangeSpec := { name := "treeSides", fn := fun _ => fun
  | [d1, d2, d3] => { results := [.lit (.bool false)], args := [d1, d2, d3] }
  | _ => none }
def TreeSidesWrongFalsely : Prop := treeSidesRow.holds Try.pinned (OpenSpec.ofChange treeSidesWrong)

/-- 'parquetlaw16.EvenTells': WHATEVER THE INPUT: true; the input reads as it did. -/
def evenTellsSpec : ChangeSpec := { name := "evenTells", fn := fun _ => fun
  | [d1, d2] => { results := [.lit (.bool true)], args := [d1, d2] }
  | _ => none }
def evenTellsRow : OpenClaim := { program := "ytlonkgccgccieaa", sum := "44bb20988f38b007b10e94d802650a011eba5d8b96fd6dc51477faea2edc8470", func := "parquet/parquetlaw16.EvenTells", spec := "evenTells", unfollowed := true, recurses := true, plainKeys := false, apart := false }
def EvenTellsSaid : Prop := evenTellsRow.holds Try.pinned (OpenSpec.ofChange evenTellsSpec)

/-- ITS FALSE NEIGHBOUR: 'it returns false'. Refute it at one input. -/
def evenTellsWrong : ChangeSpec := { name := "evenTells", fn := fun _ => fun
  | [d1, d2] => { results := [.lit (.bool false)], args := [d1, d2] }
  | _ => none }
def EvenTellsWrongFalsely : Prop := evenTellsRow.holds Try.pinned (OpenSpec.ofChange evenTellsWrong)

/-- 'parquetlaw16.EvenHolds': WHATEVER THE INPUT: true; the input reads as it did. -/
def evenHoldsSpec : ChangeSpec := { name := "evenHolds", fn := fun _ => fun
  | [d] => { results := [.lit (.bool true)], args := [d] }
  | _ => none }
def evenHoldsRow : OpenClaim := { program := "ytlonkgccgccieaa", sum := "44bb20988f38b007b10e94d802650a011eba5d8b96fd6dc51477faea2edc8470", func := "parquet/parquetlaw16.EvenHolds", spec := "evenHolds", unfollowed := true, recurses := true, plainKeys := false, apart := false }
def EvenHoldsSaid : Prop := evenHoldsRow.holds Try.pinned (OpenSpec.ofChange evenHoldsSpec)

/-- ITS FALSE NEIGHBOUR: 'it returns false'. Refute it at one input. -/
def evenHoldsWrong : ChangeSpec := { name := "evenHolds", fn := fun _ => fun
  | [d] => { results := [.lit (.bool false)], args := [d] }
  | _ => none }
def EvenHoldsWrongFalsely : Prop := evenHoldsRow.holds Try.pinned (OpenSpec.ofChange evenHoldsWrong)

/-- 'parquetlaw16.EvenDeep': WHATEVER THE INPUT: true; the input reads as it did. -/
def evenDeepSpec : ChangeSpec := { name := "evenDeep", fn := fun _ => fun
  | [d1, d2] => { results := [.lit (.bool true)], args := [d1, d2] }
  | _ => none }
def evenDeepRow : OpenClaim := { program := "ytlonkgccgccieaa", sum := "44bb20988f38b007b10e94d802650a011eba5d8b96fd6dc51477faea2edc8470", func := "parquet/parquetlaw16.EvenDeep", spec := "evenDeep", unfollowed := true, recurses := true, plainKeys := false, apart := false }
def EvenDeepSaid : Prop := evenDeepRow.holds Try.pinned (OpenSpec.ofChange evenDeepSpec)

/-- ITS FALSE NEIGHBOUR: 'it returns false'. Refute it at one input. -/
def evenDeepWrong : ChangeSpec := { name := "evenDeep", fn := fun _ => fun
  | [d1, d2] => { results := [.lit (.bool false)], args := [d1, d2] }
  | _ => none }
def EvenDeepWrongFalsely : Prop := evenDeepRow.holds Try.pinned (OpenSpec.ofChange evenDeepWrong)

/-- 'parquetlaw21.NodeOrders': WHATEVER THE INPUT: true; the input reads as it did. -/
def nodeOrdersSpec : ChangeSpec := { name := "nodeOrders", fn := fun _ => fun
  | [d1, d2] => { results := [.lit (.bool true)], args := [d1, d2] }
  | _ => none }
def nodeOrdersRow : OpenClaim := { program := "ytlonkgccgccieaa", sum := "44bb20988f38b007b10e94d802650a011eba5d8b96fd6dc51477faea2edc8470", func := "parquet/parquetlaw21.NodeOrders", spec := "nodeOrders", unfollowed := true, recurses := true, named := ["math/bits.overflowError"], plainKeys := false, apart := false }
def NodeOrdersSaid : Prop := nodeOrdersRow.holds Try.pinned (OpenSpec.ofChange nodeOrdersSpec)

/-- ITS FALSE NEIGHBOUR: 'it returns false'. Refute it at one input. -/
def nodeOrdersWrong : ChangeSpec := { name := "nodeOrders", fn := fun _ => fun
  | [d1, d2] => { results := [.lit (.bool false)], args := [d1, d2] }
  | _ => none }
def NodeOrdersWrongFalsely : Prop := nodeOrdersRow.holds Try.pinned (OpenSpec.ofChange nodeOrdersWrong)

/-- 'parquetlaw21.NodeGrid': WHATEVER THE INPUT: true; the input reads as it did. -/
def nodeGridSpec : ChangeSpec := { name := "nodeGrid", fn := fun _ => fun
  | [d1, d2] => { results := [.lit (.bool true)], args := [d1, d2] }
  | _ => none }
def nodeGridRow : OpenClaim := { program := "ytlonkgccgccieaa", sum := "44bb20988f38b007b10e94d802650a011eba5d8b96fd6dc51477faea2edc8470", func := "parquet/parquetlaw21.NodeGrid", spec := "nodeGrid", unfollowed := true, recurses := true, named := ["math/bits.overflowError"], plainKeys := false, apart := false }
def NodeGridSaid : Prop := nodeGridRow.holds Try.pinned (OpenSpec.ofChange nodeGridSpec)

/-- ITS FALSE NEIGHBOUR: 'it returns false'. Refute it at one input. -/
def nodeGridWrong : ChangeSpec := { name := "nodeGrid", fn := fun _ => fun
  | [d1, d2] => { results := [.lit (.bool false)], args := [d1, d2] }
  | _ => none }
def NodeGridWrongFalsely : Prop := nodeGridRow.holds Try.pinned (OpenSpec.ofChange nodeGridWrong)

/-- 'parquetlaw21.NodeRaw': WHATEVER THE INPUT: true; the input reads as it did. -/
def nodeRawSpec : ChangeSpec := { name := "nodeRaw", fn := fun _ => fun
  | [d1, d2] => { results := [.lit (.bool true)], args := [d1, d2] }
  | _ => none }
def nodeRawRow : OpenClaim := { program := "ytlonkgccgccieaa", sum := "44bb20988f38b007b10e94d802650a011eba5d8b96fd6dc51477faea2edc8470", func := "parquet/parquetlaw21.NodeRaw", spec := "nodeRaw", unfollowed := true, recurses := true, named := ["math/bits.overflowError"], plainKeys := false, apart := false }
def NodeRawSaid : Prop := nodeRawRow.holds Try.pinned (OpenSpec.ofChange nodeRawSpec)

/-- ITS FALSE NEIGHBOUR: 'it returns false'. Refute it at one input. -/
def nodeRawWrong : ChangeSpec := { name := "nodeRaw", fn := fun _ => fun
  | [d1, d2] => { results := [.lit (.bool false)], args := [d1, d2] }
  | _ => none }
def NodeRawWrongFalsely : Prop := nodeRawRow.holds Try.pinned (OpenSpec.ofChange nodeRawWrong)

/- THE SECOND FORM. 'bulk': how many values and letters a reading holds, each counted each time it is reached (what is shared counts as often as it is met; a slice's spare places count too). A statement '..UptoSaid' is the law's where the arguments, and the package variables that the reading takes, are together of bulk at most 1048576: NARROWER than '..Said'. Prove '..Said' where nothing that the law and all that it calls make is longer than what came in: it says more and counts as full. Else prove '..UptoSaid'. A law counts once. -/
mutual
def uptoBulk {H : Type} : DataW H → Nat
  | .lit (.string bytes) => bytes.length + 1
  | .lit _ => 1
  | .nil => 1
  | .ptr d => uptoBulk d + 1
  | .slice elems spare => uptoBulkAll elems + uptoBulkAll spare + 1
  | .agg parts => uptoBulkAll parts + 1
  | .iface _ d => uptoBulk d + 1
  | .map entries => uptoBulkEntries entries + 1
  | .held _ => 1
def uptoBulkAll {H : Type} : List (DataW H) → Nat
  | [] => 0
  | d :: r => uptoBulk d + uptoBulkAll r
def uptoBulkEntries {H : Type} : List (Lit × DataW H) → Nat
  | [] => 0
  | x :: r => uptoBulkEntry x + uptoBulkEntries r
def uptoBulkEntry {H : Type} : Lit × DataW H → Nat
  | (.string bytes, d) => bytes.length + uptoBulk d + 1
  | (_, d) => uptoBulk d + 1
 end
def uptoSmall : (H : Type) → List (DataW H) → Bool := fun _ ds => decide (uptoBulkAll ds ≤ 1048576)
def OpenSpec.upto (s : _root_.Go.ChangeSpec) : _root_.Go.OpenSpec := { _root_.Go.OpenSpec.ofChange s with cond := some uptoSmall }

/-- 'parquetlaw13.TreePlays', WHERE WHAT IT READS IS OF BULK AT MOST 1048576: true; the input reads as it did. -/
def treePlaysUptoRow : OpenClaim := { program := "ytlonkgccgccieaa", sum := "44bb20988f38b007b10e94d802650a011eba5d8b96fd6dc51477faea2edc8470", func := "parquet/parquetlaw13.TreePlays", spec := "treePlays", unfollowed := true, recurses := true, plainKeys := false, apart := false, narrowed := true }
def TreePlaysUptoSaid : Prop := treePlaysUptoRow.holds Try.pinned (OpenSpec.upto treePlaysSpec)

/-- 'parquetlaw13.TreeCovers', WHERE WHAT IT READS IS OF BULK AT MOST 1048576: true; the input reads as it did. -/
def treeCoversUptoRow : OpenClaim := { program := "ytlonkgccgccieaa", sum := "44bb20988f38b007b10e94d802650a011eba5d8b96fd6dc51477faea2edc8470", func := "parquet/parquetlaw13.TreeCovers", spec := "treeCovers", unfollowed := true, recurses := true, plainKeys := false, apart := false, narrowed := true }
def TreeCoversUptoSaid : Prop := treeCoversUptoRow.holds Try.pinned (OpenSpec.upto treeCoversSpec)

/-- 'parquetlaw13.TreeSides', WHERE WHAT IT READS IS OF BULK AT MOST 1048576: true; the input reads as it did. -/
def treeSidesUptoRow : OpenClaim := { program := "ytlonkgccgccieaa", sum := "44bb20988f38b007b10e94d802650a011eba5d8b96fd6dc51477faea2edc8470", func := "parquet/parquetlaw13.TreeSides", spec := "treeSides", unfollowed := true, recurses := true, plainKeys := false, apart := false, narrowed := true }
def TreeSidesUptoSaid : Prop := treeSidesUptoRow.holds Try.pinned (OpenSpec.upto treeSidesSpec)

/-- 'parquetlaw16.EvenTells', WHERE WHAT IT READS IS OF BULK AT MOST 1048576: true; the input reads as it did. -/
def evenTellsUptoRow : OpenClaim := { program := "ytlonkgccgccieaa", sum := "44bb20988f38b007b10e94d802650a011eba5d8b96fd6dc51477faea2edc8470", func := "parquet/parquetlaw16.EvenTells", spec := "evenTells", unfollowed := true, recurses := true, plainKeys := false, apart := false, narrowed := true }
def EvenTellsUptoSaid : Prop := evenTellsUptoRow.holds Try.pinned (OpenSpec.upto evenTellsSpec)

/-- 'parquetlaw16.EvenHolds', WHERE WHAT IT READS IS OF BULK AT MOST 1048576: true; the input reads as it did. -/
def evenHoldsUptoRow : OpenClaim := { program := "ytlonkgccgccieaa", sum := "44bb20988f38b007b10e94d802650a011eba5d8b96fd6dc51477faea2edc8470", func := "parquet/parquetlaw16.EvenHolds", spec := "evenHolds", unfollowed := true, recurses := true, plainKeys := false, apart := false, narrowed := true }
def EvenHoldsUptoSaid : Prop := evenHoldsUptoRow.holds Try.pinned (OpenSpec.upto evenHoldsSpec)

/-- 'parquetlaw16.EvenDeep', WHERE WHAT IT READS IS OF BULK AT MOST 1048576: true; the input reads as it did. -/
def evenDeepUptoRow : OpenClaim := { program := "ytlonkgccgccieaa", sum := "44bb20988f38b007b10e94d802650a011eba5d8b96fd6dc51477faea2edc8470", func := "parquet/parquetlaw16.EvenDeep", spec := "evenDeep", unfollowed := true, recurses := true, plainKeys := false, apart := false, narrowed := true }
def EvenDeepUptoSaid : Prop := evenDeepUptoRow.holds Try.pinned (OpenSpec.upto evenDeepSpec)

/-- 'parquetlaw21.NodeOrders', WHERE WHAT IT READS IS OF BULK AT MOST 1048576: true; the input reads as it did. -/
def nodeOrdersUptoRow : OpenClaim := { program := "ytlonkgccgccieaa", sum := "44bb20988f38b007b10e94d802650a011eba5d8b96fd6dc51477faea2edc8470", func := "parquet/parquetlaw21.NodeOrders", spec := "nodeOrders", unfollowed := true, recurses := true, named := ["math/bits.overflowError"], plainKeys := false, apart := false, narrowed := true }
def NodeOrdersUptoSaid : Prop := nodeOrdersUptoRow.holds Try.pinned (OpenSpec.upto nodeOrdersSpec)

/-- 'parquetlaw21.NodeGrid', WHERE WHAT IT READS IS OF BULK AT MOST 1048576: true; the input reads as it did. -/
def nodeGridUptoRow : OpenClaim := { program := "ytlonkgccgccieaa", sum := "44bb20988f38b007b10e94d802650a011eba5d8b96fd6dc51477faea2edc8470", func := "parquet/parquetlaw21.NodeGrid", spec := "nodeGrid", unfollowed := true, recurses := true, named := ["math/bits.overflowError"], plainKeys := false, apart := false, narrowed := true }
def NodeGridUptoSaid : Prop := nodeGridUptoRow.holds Try.pinned (OpenSpec.upto nodeGridSpec)

/-- 'parquetlaw21.NodeRaw', WHERE WHAT IT READS IS OF BULK AT MOST 1048576: true; the input reads as it did. -/
def nodeRawUptoRow : OpenClaim := { program := "ytlonkgccgccieaa", sum := "44bb20988f38b007b10e94d802650a011eba5d8b96fd6dc51477faea2edc8470", func := "parquet/parquetlaw21.NodeRaw", spec := "nodeRaw", unfollowed := true, recurses := true, named := ["math/bits.overflowError"], plainKeys := false, apart := false, narrowed := true }
def NodeRawUptoSaid : Prop := nodeRawUptoRow.holds Try.pinned (OpenSpec.upto nodeRawSpec)

end Rows
end Go.Proofs.Ytlonkgccgccieaa
