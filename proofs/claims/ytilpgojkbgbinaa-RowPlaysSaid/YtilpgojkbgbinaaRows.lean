/-
  No cell of these rows narrows 'for every input' (looked for: loops, veiled, ifaces, maps, wideKeys, modest, calm, conditions, laid).
  DERIVED. THE GIVEN ROWS OF THIS SEAT. 13 by the template 'for every input the law returns true; each argument reads behind the call as it read before'; 0 by the template 'total and deterministic' (their statements: YtilpgojkbgbinaaTotals.lean).
  GIVEN WITH THE SEED: the statements are not yours to turn. If you find one false, say at which input.
  Laid BY PROGRAM, IN A SANDBOX (cutbox-rows.mjs): the forced cells as the released guide's own fill.sh prints them over the translation e7304cf0f4a4185c… (all of the seat's roots in one cut). By AI agents, Wed Nov 11 2026. No macro, syntax, notation, axiom, sorry.
-/
import Derived.Test.YtilpgojkbgbinaaChecked
import GoSem.Claim
import GoSem.ClaimJoined
import GoSem.ClaimMapViews
import Derived.JoinedTies
import Derived.KernelRfl
namespace Go.Proofs.Ytilpgojkbgbinaa
/- THE CELL 'sum', in the pinned program and in every row, IS THE sha256 OF THE DUMP (.gsa) THAT YtilpgojkbgbinaaProg.lean LOADS. Nothing in Lean hashes anything: it is a label: what it is worth is what the hold of that sum in a sandbox is worth. -/
noncomputable def Try.pinned : Pinned := { name := "ytilpgojkbgbinaa", sum := "e7304cf0f4a4185c01ddf122defa341476c32ff991a7e3c0924300302106a4a4", checked := Try.checked }
namespace Rows
def none {H : Type} : Left H := { results := [], args := [] }

/-- 'rialtolaw5.SchemaNames': WHATEVER THE INPUT: true; the input reads as it did. -/
def schemaNamesSpec : ChangeSpec := { name := "schemaNames", fn := fun _ => fun
  | [d1, d2] => { results := [.lit (.bool true)], args := [d1, d2] }
  | _ => none }
def schemaNamesRow : OpenClaim := { program := "ytilpgojkbgbinaa", sum := "e7304cf0f4a4185c01ddf122defa341476c32ff991a7e3c0924300302106a4a4", func := "rialto/rialtolaw5.SchemaNames", spec := "schemaNames", inPlace := ["math.Float64bits"], unfollowed := true, recurses := true, apart := false }
def SchemaNamesSaid : Prop := schemaNamesRow.holds Try.pinned (OpenSpec.ofChange schemaNamesSpec)

/-- ITS FALSE NEIGHBOUR: 'it returns false'. Refute it at one input. -/
def schemaNamesWrong : ChangeSpec := { name := "schemaNames", fn := fun _ => fun
  | [d1, d2] => { results := [.lit (.bool false)], args := [d1, d2] }
  | _ => none }
def SchemaNamesWrongFalsely : Prop := schemaNamesRow.holds Try.pinned (OpenSpec.ofChange schemaNamesWrong)

/-- 'rialtolaw5.SchemaMany': WHATEVER THE INPUT: true; the input reads as it did. -/
def schemaManySpec : ChangeSpec := { name := "schemaMany", fn := fun _ => fun
  | [d1, d2, d3] => { results := [.lit (.bool true)], args := [d1, d2, d3] }
  | _ => none }
def schemaManyRow : OpenClaim := { program := "ytilpgojkbgbinaa", sum := "e7304cf0f4a4185c01ddf122defa341476c32ff991a7e3c0924300302106a4a4", func := "rialto/rialtolaw5.SchemaMany", spec := "schemaMany", inPlace := ["math.Float64bits"], unfollowed := true, recurses := true, apart := false }
def SchemaManySaid : Prop := schemaManyRow.holds Try.pinned (OpenSpec.ofChange schemaManySpec)

/-- ITS FALSE NEIGHBOUR: 'it returns false'. Refute it at one input. -/
def schemaManyWrong : ChangeSpec := { name := "schemaMany", fn := fun _ => fun
  | [d1, d2, d3] => { results := [.lit (.bool false)], args := [d1, d2, d3] }
  | _ => none }
def SchemaManyWrongFalsely : Prop := schemaManyRow.holds Try.pinned (OpenSpec.ofChange schemaManyWrong)

/-- 'rialtolaw5.SchemaTells': WHATEVER THE INPUT: true; the input reads as it did. -/
def schemaTellsSpec : ChangeSpec := { name := "schemaTells", fn := fun _ => fun
  | [d1, d2, d3, d4, d5, d6] => { results := [.lit (.bool true)], args := [d1, d2, d3, d4, d5, d6] }
  | _ => none }
def schemaTellsRow : OpenClaim := { program := "ytilpgojkbgbinaa", sum := "e7304cf0f4a4185c01ddf122defa341476c32ff991a7e3c0924300302106a4a4", func := "rialto/rialtolaw5.SchemaTells", spec := "schemaTells", inPlace := ["math.Float64bits", "math.Float64frombits"], unfollowed := true, recurses := true, apart := false }
def SchemaTellsSaid : Prop := schemaTellsRow.holds Try.pinned (OpenSpec.ofChange schemaTellsSpec)

/-- ITS FALSE NEIGHBOUR: 'it returns false'. Refute it at one input. -/
def schemaTellsWrong : ChangeSpec := { name := "schemaTells", fn := fun _ => fun
  | [d1, d2, d3, d4, d5, d6] => { results := [.lit (.bool false)], args := [d1, d2, d3, d4, d5, d6] }
  | _ => none }
def SchemaTellsWrongFalsely : Prop := schemaTellsRow.holds Try.pinned (OpenSpec.ofChange schemaTellsWrong)

/-- 'rialtolaw9.RowRoom': WHATEVER THE INPUT: true; the input reads as it did. -/
def rowRoomSpec : ChangeSpec := { name := "rowRoom", fn := fun _ => fun
  | [d1, d2] => { results := [.lit (.bool true)], args := [d1, d2] }
  | _ => none }
def rowRoomRow : OpenClaim := { program := "ytilpgojkbgbinaa", sum := "e7304cf0f4a4185c01ddf122defa341476c32ff991a7e3c0924300302106a4a4", func := "rialto/rialtolaw9.RowRoom", spec := "rowRoom", unfollowed := true, recurses := true, apart := false }
def RowRoomSaid : Prop := rowRoomRow.holds Try.pinned (OpenSpec.ofChange rowRoomSpec)

/-- ITS FALSE NEIGHBOUR: 'it returns false'. Refute it at one input. -/
def rowRoomWrong : ChangeSpec := { name := "rowRoom", fn := fun _ => fun
  | [d1, d2] => { results := [.lit (.bool false)], args := [d1, d2] }
  | _ => none }
def RowRoomWrongFalsely : Prop := rowRoomRow.holds Try.pinned (OpenSpec.ofChange rowRoomWrong)

/-- 'rialtolaw8.HeapFree': WHATEVER THE INPUT: true; the input reads as it did. -/
def heapFreeSpec : ChangeSpec := { name := "heapFree", fn := fun _ => fun
  | [d] => { results := [.lit (.bool true)], args := [d] }
  | _ => none }
def heapFreeRow : OpenClaim := { program := "ytilpgojkbgbinaa", sum := "e7304cf0f4a4185c01ddf122defa341476c32ff991a7e3c0924300302106a4a4", func := "rialto/rialtolaw8.HeapFree", spec := "heapFree", unfollowed := true, recurses := true, apart := false }
def HeapFreeSaid : Prop := heapFreeRow.holds Try.pinned (OpenSpec.ofChange heapFreeSpec)

/-- ITS FALSE NEIGHBOUR: 'it returns false'. Refute it at one input. -/
def heapFreeWrong : ChangeSpec := { name := "heapFree", fn := fun _ => fun
  | [d] => { results := [.lit (.bool false)], args := [d] }
  | _ => none }
def HeapFreeWrongFalsely : Prop := heapFreeRow.holds Try.pinned (OpenSpec.ofChange heapFreeWrong)

/-- 'rialtolaw8.HeapSorts': WHATEVER THE INPUT: true; the input reads as it did. -/
def heapSortsSpec : ChangeSpec := { name := "heapSorts", fn := fun _ => fun
  | [d1, d2] => { results := [.lit (.bool true)], args := [d1, d2] }
  | _ => none }
def heapSortsRow : OpenClaim := { program := "ytilpgojkbgbinaa", sum := "e7304cf0f4a4185c01ddf122defa341476c32ff991a7e3c0924300302106a4a4", func := "rialto/rialtolaw8.HeapSorts", spec := "heapSorts", unfollowed := true, recurses := true, apart := false }
def HeapSortsSaid : Prop := heapSortsRow.holds Try.pinned (OpenSpec.ofChange heapSortsSpec)

/-- ITS FALSE NEIGHBOUR: 'it returns false'. Refute it at one input. -/
def heapSortsWrong : ChangeSpec := { name := "heapSorts", fn := fun _ => fun
  | [d1, d2] => { results := [.lit (.bool false)], args := [d1, d2] }
  | _ => none }
def HeapSortsWrongFalsely : Prop := heapSortsRow.holds Try.pinned (OpenSpec.ofChange heapSortsWrong)

/-- 'rialtolaw8.HeapTypes': WHATEVER THE INPUT: true; the input reads as it did. -/
def heapTypesSpec : ChangeSpec := { name := "heapTypes", fn := fun _ => fun
  | [d1, d2] => { results := [.lit (.bool true)], args := [d1, d2] }
  | _ => none }
def heapTypesRow : OpenClaim := { program := "ytilpgojkbgbinaa", sum := "e7304cf0f4a4185c01ddf122defa341476c32ff991a7e3c0924300302106a4a4", func := "rialto/rialtolaw8.HeapTypes", spec := "heapTypes", unfollowed := true, recurses := true, apart := false }
def HeapTypesSaid : Prop := heapTypesRow.holds Try.pinned (OpenSpec.ofChange heapTypesSpec)

/-- ITS FALSE NEIGHBOUR: 'it returns false'. Refute it at one input. -/
def heapTypesWrong : ChangeSpec := { name := "heapTypes", fn := fun _ => fun
  | [d1, d2] => { results := [.lit (.bool false)], args := [d1, d2] }
  | _ => none }
def HeapTypesWrongFalsely : Prop := heapTypesRow.holds Try.pinned (OpenSpec.ofChange heapTypesWrong)

/-- 'rialtolaw9.RowNumbers': WHATEVER THE INPUT: true; the input reads as it did. -/
def rowNumbersSpec : ChangeSpec := { name := "rowNumbers", fn := fun _ => fun
  | [d] => { results := [.lit (.bool true)], args := [d] }
  | _ => none }
def rowNumbersRow : OpenClaim := { program := "ytilpgojkbgbinaa", sum := "e7304cf0f4a4185c01ddf122defa341476c32ff991a7e3c0924300302106a4a4", func := "rialto/rialtolaw9.RowNumbers", spec := "rowNumbers", unfollowed := true, recurses := true, apart := false }
def RowNumbersSaid : Prop := rowNumbersRow.holds Try.pinned (OpenSpec.ofChange rowNumbersSpec)

/-- ITS FALSE NEIGHBOUR: 'it returns false'. Refute it at one input. -/
def rowNumbersWrong : ChangeSpec := { name := "rowNumbers", fn := fun _ => fun
  | [d] => { results := [.lit (.bool false)], args := [d] }
  | _ => none }
def RowNumbersWrongFalsely : Prop := rowNumbersRow.holds Try.pinned (OpenSpec.ofChange rowNumbersWrong)

/-- 'rialtolaw8.HeapMerges': WHATEVER THE INPUT: true; the input reads as it did. -/
def heapMergesSpec : ChangeSpec := { name := "heapMerges", fn := fun _ => fun
  | [d1, d2] => { results := [.lit (.bool true)], args := [d1, d2] }
  | _ => none }
def heapMergesRow : OpenClaim := { program := "ytilpgojkbgbinaa", sum := "e7304cf0f4a4185c01ddf122defa341476c32ff991a7e3c0924300302106a4a4", func := "rialto/rialtolaw8.HeapMerges", spec := "heapMerges", unfollowed := true, recurses := true, apart := false }
def HeapMergesSaid : Prop := heapMergesRow.holds Try.pinned (OpenSpec.ofChange heapMergesSpec)

/-- ITS FALSE NEIGHBOUR: 'it returns false'. Refute it at one input. -/
def heapMergesWrong : ChangeSpec := { name := "heapMerges", fn := fun _ => fun
  | [d1, d2] => { results := [.lit (.bool false)], args := [d1, d2] }
  | _ => none }
def HeapMergesWrongFalsely : Prop := heapMergesRow.holds Try.pinned (OpenSpec.ofChange heapMergesWrong)

/-- 'rialtolaw8.HeapHalves': WHATEVER THE INPUT: true; the input reads as it did. -/
def heapHalvesSpec : ChangeSpec := { name := "heapHalves", fn := fun _ => fun
  | [d1, d2] => { results := [.lit (.bool true)], args := [d1, d2] }
  | _ => none }
def heapHalvesRow : OpenClaim := { program := "ytilpgojkbgbinaa", sum := "e7304cf0f4a4185c01ddf122defa341476c32ff991a7e3c0924300302106a4a4", func := "rialto/rialtolaw8.HeapHalves", spec := "heapHalves", unfollowed := true, recurses := true, apart := false }
def HeapHalvesSaid : Prop := heapHalvesRow.holds Try.pinned (OpenSpec.ofChange heapHalvesSpec)

/-- ITS FALSE NEIGHBOUR: 'it returns false'. Refute it at one input. -/
def heapHalvesWrong : ChangeSpec := { name := "heapHalves", fn := fun _ => fun
  | [d1, d2] => { results := [.lit (.bool false)], args := [d1, d2] }
  | _ => none }
def HeapHalvesWrongFalsely : Prop := heapHalvesRow.holds Try.pinned (OpenSpec.ofChange heapHalvesWrong)

/-- 'rialtolaw9.RowBack': WHATEVER THE INPUT: true; the input reads as it did. -/
def rowBackSpec : ChangeSpec := { name := "rowBack", fn := fun _ => fun
  | [d1, d2] => { results := [.lit (.bool true)], args := [d1, d2] }
  | _ => none }
def rowBackRow : OpenClaim := { program := "ytilpgojkbgbinaa", sum := "e7304cf0f4a4185c01ddf122defa341476c32ff991a7e3c0924300302106a4a4", func := "rialto/rialtolaw9.RowBack", spec := "rowBack", unfollowed := true, recurses := true, apart := false }
def RowBackSaid : Prop := rowBackRow.holds Try.pinned (OpenSpec.ofChange rowBackSpec)

/-- ITS FALSE NEIGHBOUR: 'it returns false'. Refute it at one input. -/
def rowBackWrong : ChangeSpec := { name := "rowBack", fn := fun _ => fun
  | [d1, d2] => { results := [.lit (.bool false)], args := [d1, d2] }
  | _ => none }
def RowBackWrongFalsely : Prop := rowBackRow.holds Try.pinned (OpenSpec.ofChange rowBackWrong)

/-- 'rialtolaw9.RowCopies': WHATEVER THE INPUT: true; the input reads as it did. -/
def rowCopiesSpec : ChangeSpec := { name := "rowCopies", fn := fun _ => fun
  | [d1, d2] => { results := [.lit (.bool true)], args := [d1, d2] }
  | _ => none }
def rowCopiesRow : OpenClaim := { program := "ytilpgojkbgbinaa", sum := "e7304cf0f4a4185c01ddf122defa341476c32ff991a7e3c0924300302106a4a4", func := "rialto/rialtolaw9.RowCopies", spec := "rowCopies", inPlace := ["math.Float64bits"], unfollowed := true, recurses := true, apart := false }
def RowCopiesSaid : Prop := rowCopiesRow.holds Try.pinned (OpenSpec.ofChange rowCopiesSpec)

/-- ITS FALSE NEIGHBOUR: 'it returns false'. Refute it at one input. -/
def rowCopiesWrong : ChangeSpec := { name := "rowCopies", fn := fun _ => fun
  | [d1, d2] => { results := [.lit (.bool false)], args := [d1, d2] }
  | _ => none }
def RowCopiesWrongFalsely : Prop := rowCopiesRow.holds Try.pinned (OpenSpec.ofChange rowCopiesWrong)

/-- 'rialtolaw9.RowPlays': WHATEVER THE INPUT: true; the input reads as it did. -/
def rowPlaysSpec : ChangeSpec := { name := "rowPlays", fn := fun _ => fun
  | [d1, d2] => { results := [.lit (.bool true)], args := [d1, d2] }
  | _ => none }
def rowPlaysRow : OpenClaim := { program := "ytilpgojkbgbinaa", sum := "e7304cf0f4a4185c01ddf122defa341476c32ff991a7e3c0924300302106a4a4", func := "rialto/rialtolaw9.RowPlays", spec := "rowPlays", inPlace := ["math.Float64bits"], unfollowed := true, recurses := true, apart := false }
def RowPlaysSaid : Prop := rowPlaysRow.holds Try.pinned (OpenSpec.ofChange rowPlaysSpec)

/-- ITS FALSE NEIGHBOUR: 'it returns false'. Refute it at one input. -/
def rowPlaysWrong : ChangeSpec := { name := "rowPlays", fn := fun _ => fun
  | [d1, d2] => { results := [.lit (.bool false)], args := [d1, d2] }
  | _ => none }
def RowPlaysWrongFalsely : Prop := rowPlaysRow.holds Try.pinned (OpenSpec.ofChange rowPlaysWrong)

/- THE SECOND FORM. 'bulk': how many values and letters a reading holds, each counted each time it is reached (what is shared counts as often as it is met; a slice's spare places count too). A statement '..UptoSaid' is the law's where the arguments, and the package variables that the reading takes, are together of bulk at most 1048576: NARROWER than '..Said'. Prove '..Said' where nothing that the law and all that it calls make is longer than what came in: it says more and counts as full. Else prove '..UptoSaid'. A law counts once. -/
mutual
def uptoBulk {H : Type} : DataW H → Nat
  | .lit (.string bytes) => bytes.length + 1
  | .lit _ => 1
  | .nil => 1
  | .ptr d => uptoBulk d + 1
  | .slice elems spare => uptoBulkAll elems + uptoBulkAll spare + 1
  | .agg parts => uptoBulkAll parts + 1
  | .iface _ d => uptoBulk d + 1
  | .map entries => uptoBulkEntries entries + 1
  | .held _ => 1
def uptoBulkAll {H : Type} : List (DataW H) → Nat
  | [] => 0
  | d :: r => uptoBulk d + uptoBulkAll r
def uptoBulkEntries {H : Type} : List (Lit × DataW H) → Nat
  | [] => 0
  | x :: r => uptoBulkEntry x + uptoBulkEntries r
def uptoBulkEntry {H : Type} : Lit × DataW H → Nat
  | (.string bytes, d) => bytes.length + uptoBulk d + 1
  | (_, d) => uptoBulk d + 1
 end
def uptoSmall : (H : Type) → List (DataW H) → Bool := fun _ ds => decide (uptoBulkAll ds ≤ 1048576)
def OpenSpec.upto (s : _root_.Go.ChangeSpec) : _root_.Go.OpenSpec := { _root_.Go.OpenSpec.ofChange s with cond := some uptoSmall }

/-- 'rialtolaw5.SchemaNames', WHERE WHAT IT READS IS OF BULK AT MOST 1048576: true; the input reads as it did. -/
def schemaNamesUptoRow : OpenClaim := { program := "ytilpgojkbgbinaa", sum := "e7304cf0f4a4185c01ddf122defa341476c32ff991a7e3c0924300302106a4a4", func := "rialto/rialtolaw5.SchemaNames", spec := "schemaNames", inPlace := ["math.Float64bits"], unfollowed := true, recurses := true, apart := false, narrowed := true }
def SchemaNamesUptoSaid : Prop := schemaNamesUptoRow.holds Try.pinned (OpenSpec.upto schemaNamesSpec)

/-- 'rialtolaw5.SchemaMany', WHERE WHAT IT READS IS OF BULK AT MOST 1048576: true; the input reads as it did. -/
def schemaManyUptoRow : OpenClaim := { program := "ytilpgojkbgbinaa", sum := "e7304cf0f4a4185c01ddf122defa341476c32ff991a7e3c0924300302106a4a4", func := "rialto/rialtolaw5.SchemaMany", spec := "schemaMany", inPlace := ["math.Float64bits"], unfollowed := true, recurses := true, apart := false, narrowed := true }
def SchemaManyUptoSaid : Prop := schemaManyUptoRow.holds Try.pinned (OpenSpec.upto schemaManySpec)

/-- 'rialtolaw5.SchemaTells', WHERE WHAT IT READS IS OF BULK AT MOST 1048576: true; the input reads as it did. -/
def schemaTellsUptoRow : OpenClaim := { program := "ytilpgojkbgbinaa", sum := "e7304cf0f4a4185c01ddf122defa341476c32ff991a7e3c0924300302106a4a4", func := "rialto/rialtolaw5.SchemaTells", spec := "schemaTells", inPlace := ["math.Float64bits", "math.Float64frombits"], unfollowed := true, recurses := true, apart := false, narrowed := true }
def SchemaTellsUptoSaid : Prop := schemaTellsUptoRow.holds Try.pinned (OpenSpec.upto schemaTellsSpec)

/-- 'rialtolaw9.RowRoom', WHERE WHAT IT READS IS OF BULK AT MOST 1048576: true; the input reads as it did. -/
def rowRoomUptoRow : OpenClaim := { program := "ytilpgojkbgbinaa", sum := "e7304cf0f4a4185c01ddf122defa341476c32ff991a7e3c0924300302106a4a4", func := "rialto/rialtolaw9.RowRoom", spec := "rowRoom", unfollowed := true, recurses := true, apart := false, narrowed := true }
def RowRoomUptoSaid : Prop := rowRoomUptoRow.holds Try.pinned (OpenSpec.upto rowRoomSpec)

/-- 'rialtolaw8.HeapFree', WHERE WHAT IT READS IS OF BULK AT MOST 1048576: true; the input reads as it did. -/
def heapFreeUptoRow : OpenClaim := { program := "ytilpgojkbgbinaa", sum := "e7304cf0f4a4185c01ddf122defa341476c32ff991a7e3c0924300302106a4a4", func := "rialto/rialtolaw8.HeapFree", spec := "heapFree", unfollowed := true, recurses := true, apart := false, narrowed := true }
def HeapFreeUptoSaid : Prop := heapFreeUptoRow.holds Try.pinned (OpenSpec.upto heapFreeSpec)

/-- 'rialtolaw8.HeapSorts', WHERE WHAT IT READS IS OF BULK AT MOST 1048576: true; the input reads as it did. -/
def heapSortsUptoRow : OpenClaim := { program := "ytilpgojkbgbinaa", sum := "e7304cf0f4a4185c01ddf122defa341476c32ff991a7e3c0924300302106a4a4", func := "rialto/rialtolaw8.HeapSorts", spec := "heapSorts", unfollowed := true, recurses := true, apart := false, narrowed := true }
def HeapSortsUptoSaid : Prop := heapSortsUptoRow.holds Try.pinned (OpenSpec.upto heapSortsSpec)

/-- 'rialtolaw8.HeapTypes', WHERE WHAT IT READS IS OF BULK AT MOST 1048576: true; the input reads as it did. -/
def heapTypesUptoRow : OpenClaim := { program := "ytilpgojkbgbinaa", sum := "e7304cf0f4a4185c01ddf122defa341476c32ff991a7e3c0924300302106a4a4", func := "rialto/rialtolaw8.HeapTypes", spec := "heapTypes", unfollowed := true, recurses := true, apart := false, narrowed := true }
def HeapTypesUptoSaid : Prop := heapTypesUptoRow.holds Try.pinned (OpenSpec.upto heapTypesSpec)

/-- 'rialtolaw9.RowNumbers', WHERE WHAT IT READS IS OF BULK AT MOST 1048576: true; the input reads as it did. -/
def rowNumbersUptoRow : OpenClaim := { program := "ytilpgojkbgbinaa", sum := "e7304cf0f4a4185c01ddf122defa341476c32ff991a7e3c0924300302106a4a4", func := "rialto/rialtolaw9.RowNumbers", spec := "rowNumbers", unfollowed := true, recurses := true, apart := false, narrowed := true }
def RowNumbersUptoSaid : Prop := rowNumbersUptoRow.holds Try.pinned (OpenSpec.upto rowNumbersSpec)

/-- 'rialtolaw8.HeapMerges', WHERE WHAT IT READS IS OF BULK AT MOST 1048576: true; the input reads as it did. -/
def heapMergesUptoRow : OpenClaim := { program := "ytilpgojkbgbinaa", sum := "e7304cf0f4a4185c01ddf122defa341476c32ff991a7e3c0924300302106a4a4", func := "rialto/rialtolaw8.HeapMerges", spec := "heapMerges", unfollowed := true, recurses := true, apart := false, narrowed := true }
def HeapMergesUptoSaid : Prop := heapMergesUptoRow.holds Try.pinned (OpenSpec.upto heapMergesSpec)

/-- 'rialtolaw8.HeapHalves', WHERE WHAT IT READS IS OF BULK AT MOST 1048576: true; the input reads as it did. -/
def heapHalvesUptoRow : OpenClaim := { program := "ytilpgojkbgbinaa", sum := "e7304cf0f4a4185c01ddf122defa341476c32ff991a7e3c0924300302106a4a4", func := "rialto/rialtolaw8.HeapHalves", spec := "heapHalves", unfollowed := true, recurses := true, apart := false, narrowed := true }
def HeapHalvesUptoSaid : Prop := heapHalvesUptoRow.holds Try.pinned (OpenSpec.upto heapHalvesSpec)

/-- 'rialtolaw9.RowBack', WHERE WHAT IT READS IS OF BULK AT MOST 1048576: true; the input reads as it did. -/
def rowBackUptoRow : OpenClaim := { program := "ytilpgojkbgbinaa", sum := "e7304cf0f4a4185c01ddf122defa341476c32ff991a7e3c0924300302106a4a4", func := "rialto/rialtolaw9.RowBack", spec := "rowBack", unfollowed := true, recurses := true, apart := false, narrowed := true }
def RowBackUptoSaid : Prop := rowBackUptoRow.holds Try.pinned (OpenSpec.upto rowBackSpec)

/-- 'rialtolaw9.RowCopies', WHERE WHAT IT READS IS OF BULK AT MOST 1048576: true; the input reads as it did. -/
def rowCopiesUptoRow : OpenClaim := { program := "ytilpgojkbgbinaa", sum := "e7304cf0f4a4185c01ddf122defa341476c32ff991a7e3c0924300302106a4a4", func := "rialto/rialtolaw9.RowCopies", spec := "rowCopies", inPlace := ["math.Float64bits"], unfollowed := true, recurses := true, apart := false, narrowed := true }
def RowCopiesUptoSaid : Prop := rowCopiesUptoRow.holds Try.pinned (OpenSpec.upto rowCopiesSpec)

/-- 'rialtolaw9.RowPlays', WHERE WHAT IT READS IS OF BULK AT MOST 1048576: true; the input reads as it did. -/
def rowPlaysUptoRow : OpenClaim := { program := "ytilpgojkbgbinaa", sum := "e7304cf0f4a4185c01ddf122defa341476c32ff991a7e3c0924300302106a4a4", func := "rialto/rialtolaw9.RowPlays", spec := "rowPlays", inPlace := ["math.Float64bits"], unfollowed := true, recurses := true, apart := false, narrowed := true }
def RowPlaysUptoSaid : Prop := rowPlaysUptoRow.holds Try.pinned (OpenSpec.upto rowPlaysSpec)

end Rows
end Go.Proofs.Ytilpgojkbgbinaa
