/-
  No cell of these rows narrows 'for every input' (looked for: loops, veiled, ifaces, maps, wideKeys, modest, calm, conditions, laid).
  DERIVED. THE GIVEN ROWS OF THIS SEAT. 15 by the template 'for every input the law returns true; each argument reads behind the call as it read before'; 0 by the template 'total and deterministic' (their statements: YthmnaocoogfidaaTotals.lean).
  GIVEN WITH THE SEED: the statements are not yours to turn. If you find one false, say at which input.
  Laid BY PROGRAM, IN A SANDBOX (cutbox-rows.mjs): the forced cells as the released guide's own fill.sh prints them over the translation 0a75411a2ae2bbe7… (all of the seat's roots in one cut). By AI agents, Wed Nov 11 2026. No macro, syntax, notation, axiom, sorry.
-/
import Derived.Test.YthmnaocoogfidaaChecked
import GoSem.Claim
import GoSem.ClaimJoined
import GoSem.ClaimMapViews
import Derived.JoinedTies
import Derived.KernelRfl
namespace Go.Proofs.Ythmnaocoogfidaa
/- THE CELL 'sum', in the pinned program and in every row, IS THE sha256 OF THE DUMP (.gsa) THAT YthmnaocoogfidaaProg.lean LOADS. Nothing in Lean hashes anything: it is a label: what it is worth is what the hold of that sum in a sandbox is worth. -/
noncomputable def Try.pinned : Pinned := { name := "ythmnaocoogfidaa", sum := "0a75411a2ae2bbe7334eaaa56c782868c8c2a63f85ba0b459520804184422f57", checked := Try.checked }
namespace Rows
def none {H : Type} : Left H := { results := [], args := [] }

/-- 'rialtolaw20.PredCuts': WHATEVER THE INPUT: true; the input reads as it did. -/
def predCutsSpec : ChangeSpec := { name := "predCuts", fn := fun _ => fun
  | [d1, d2, d3] => { results := [.lit (.bool true)], args := [d1, d2, d3] }
  | _ => none }
def predCutsRow : OpenClaim := { program := "ythmnaocoogfidaa", sum := "0a75411a2ae2bbe7334eaaa56c782868c8c2a63f85ba0b459520804184422f57", func := "rialto/rialtolaw20.PredCuts", spec := "predCuts", inPlace := ["internal/bytealg.abigen_runtime_cmpstring", "math.Float64bits"], unfollowed := true, recurses := true, apart := false }
def PredCutsSaid : Prop := predCutsRow.holds Try.pinned (OpenSpec.ofChange predCutsSpec)

/-- ITS FALSE NEIGHBOUR: 'it returns false'. Refute it at one input. -/
def predCutsWrong : ChangeSpec := { name := "predCuts", fn := fun _ => fun
  | [d1, d2, d3] => { results := [.lit (.bool false)], args := [d1, d2, d3] }
  | _ => none }
def PredCutsWrongFalsely : Prop := predCutsRow.holds Try.pinned (OpenSpec.ofChange predCutsWrong)

/-- 'rialtolaw20.PredOps': WHATEVER THE INPUT: true; the input reads as it did. -/
def predOpsSpec : ChangeSpec := { name := "predOps", fn := fun _ => fun
  | [d1, d2] => { results := [.lit (.bool true)], args := [d1, d2] }
  | _ => none }
def predOpsRow : OpenClaim := { program := "ythmnaocoogfidaa", sum := "0a75411a2ae2bbe7334eaaa56c782868c8c2a63f85ba0b459520804184422f57", func := "rialto/rialtolaw20.PredOps", spec := "predOps", inPlace := ["internal/bytealg.abigen_runtime_cmpstring", "math.Float64bits"], unfollowed := true, recurses := true, apart := false }
def PredOpsSaid : Prop := predOpsRow.holds Try.pinned (OpenSpec.ofChange predOpsSpec)

/-- ITS FALSE NEIGHBOUR: 'it returns false'. Refute it at one input. -/
def predOpsWrong : ChangeSpec := { name := "predOps", fn := fun _ => fun
  | [d1, d2] => { results := [.lit (.bool false)], args := [d1, d2] }
  | _ => none }
def PredOpsWrongFalsely : Prop := predOpsRow.holds Try.pinned (OpenSpec.ofChange predOpsWrong)

/-- 'rialtolaw20.PredBegins': WHATEVER THE INPUT: true; the input reads as it did. -/
def predBeginsSpec : ChangeSpec := { name := "predBegins", fn := fun _ => fun
  | [d1, d2, d3] => { results := [.lit (.bool true)], args := [d1, d2, d3] }
  | _ => none }
def predBeginsRow : OpenClaim := { program := "ythmnaocoogfidaa", sum := "0a75411a2ae2bbe7334eaaa56c782868c8c2a63f85ba0b459520804184422f57", func := "rialto/rialtolaw20.PredBegins", spec := "predBegins", inPlace := ["internal/bytealg.abigen_runtime_cmpstring", "math.Float64bits"], unfollowed := true, recurses := true, apart := false }
def PredBeginsSaid : Prop := predBeginsRow.holds Try.pinned (OpenSpec.ofChange predBeginsSpec)

/-- ITS FALSE NEIGHBOUR: 'it returns false'. Refute it at one input. -/
def predBeginsWrong : ChangeSpec := { name := "predBegins", fn := fun _ => fun
  | [d1, d2, d3] => { results := [.lit (.bool false)], args := [d1, d2, d3] }
  | _ => none }
def PredBeginsWrongFalsely : Prop := predBeginsRow.holds Try.pinned (OpenSpec.ofChange predBeginsWrong)

/-- 'rialtolaw20.PredFloats': WHATEVER THE INPUT: true; the input reads as it did. -/
def predFloatsSpec : ChangeSpec := { name := "predFloats", fn := fun _ => fun
  | [d1, d2] => { results := [.lit (.bool true)], args := [d1, d2] }
  | _ => none }
def predFloatsRow : OpenClaim := { program := "ythmnaocoogfidaa", sum := "0a75411a2ae2bbe7334eaaa56c782868c8c2a63f85ba0b459520804184422f57", func := "rialto/rialtolaw20.PredFloats", spec := "predFloats", inPlace := ["internal/bytealg.abigen_runtime_cmpstring", "math.Float64bits", "math.Float64frombits"], unfollowed := true, recurses := true, apart := false }
def PredFloatsSaid : Prop := predFloatsRow.holds Try.pinned (OpenSpec.ofChange predFloatsSpec)

/-- ITS FALSE NEIGHBOUR: 'it returns false'. Refute it at one input. -/
def predFloatsWrong : ChangeSpec := { name := "predFloats", fn := fun _ => fun
  | [d1, d2] => { results := [.lit (.bool false)], args := [d1, d2] }
  | _ => none }
def PredFloatsWrongFalsely : Prop := predFloatsRow.holds Try.pinned (OpenSpec.ofChange predFloatsWrong)

/-- 'rialtolaw20.PredAll': WHATEVER THE INPUT: true; the input reads as it did. -/
def predAllSpec : ChangeSpec := { name := "predAll", fn := fun _ => fun
  | [d1, d2] => { results := [.lit (.bool true)], args := [d1, d2] }
  | _ => none }
def predAllRow : OpenClaim := { program := "ythmnaocoogfidaa", sum := "0a75411a2ae2bbe7334eaaa56c782868c8c2a63f85ba0b459520804184422f57", func := "rialto/rialtolaw20.PredAll", spec := "predAll", inPlace := ["internal/bytealg.abigen_runtime_cmpstring", "math.Float64bits"], unfollowed := true, recurses := true, apart := false }
def PredAllSaid : Prop := predAllRow.holds Try.pinned (OpenSpec.ofChange predAllSpec)

/-- ITS FALSE NEIGHBOUR: 'it returns false'. Refute it at one input. -/
def predAllWrong : ChangeSpec := { name := "predAll", fn := fun _ => fun
  | [d1, d2] => { results := [.lit (.bool false)], args := [d1, d2] }
  | _ => none }
def PredAllWrongFalsely : Prop := predAllRow.holds Try.pinned (OpenSpec.ofChange predAllWrong)

/-- 'rialtolaw20.PredOrder': WHATEVER THE INPUT: true; the input reads as it did. -/
def predOrderSpec : ChangeSpec := { name := "predOrder", fn := fun _ => fun
  | [d1, d2, d3, d4] => { results := [.lit (.bool true)], args := [d1, d2, d3, d4] }
  | _ => none }
def predOrderRow : OpenClaim := { program := "ythmnaocoogfidaa", sum := "0a75411a2ae2bbe7334eaaa56c782868c8c2a63f85ba0b459520804184422f57", func := "rialto/rialtolaw20.PredOrder", spec := "predOrder", inPlace := ["internal/bytealg.abigen_runtime_cmpstring", "math.Float64bits"], unfollowed := true, recurses := true, apart := false }
def PredOrderSaid : Prop := predOrderRow.holds Try.pinned (OpenSpec.ofChange predOrderSpec)

/-- ITS FALSE NEIGHBOUR: 'it returns false'. Refute it at one input. -/
def predOrderWrong : ChangeSpec := { name := "predOrder", fn := fun _ => fun
  | [d1, d2, d3, d4] => { results := [.lit (.bool false)], args := [d1, d2, d3, d4] }
  | _ => none }
def PredOrderWrongFalsely : Prop := predOrderRow.holds Try.pinned (OpenSpec.ofChange predOrderWrong)

/-- 'rialtolaw20.PredTells': WHATEVER THE INPUT: true; the input reads as it did. -/
def predTellsSpec : ChangeSpec := { name := "predTells", fn := fun _ => fun
  | [d1, d2, d3, d4] => { results := [.lit (.bool true)], args := [d1, d2, d3, d4] }
  | _ => none }
def predTellsRow : OpenClaim := { program := "ythmnaocoogfidaa", sum := "0a75411a2ae2bbe7334eaaa56c782868c8c2a63f85ba0b459520804184422f57", func := "rialto/rialtolaw20.PredTells", spec := "predTells", inPlace := ["internal/bytealg.abigen_runtime_cmpstring", "math.Float64bits"], unfollowed := true, recurses := true, apart := false }
def PredTellsSaid : Prop := predTellsRow.holds Try.pinned (OpenSpec.ofChange predTellsSpec)

/-- ITS FALSE NEIGHBOUR: 'it returns false'. Refute it at one input. -/
def predTellsWrong : ChangeSpec := { name := "predTells", fn := fun _ => fun
  | [d1, d2, d3, d4] => { results := [.lit (.bool false)], args := [d1, d2, d3, d4] }
  | _ => none }
def PredTellsWrongFalsely : Prop := predTellsRow.holds Try.pinned (OpenSpec.ofChange predTellsWrong)

/-- 'rialtolaw10.HashFloats': WHATEVER THE INPUT: true; the input reads as it did. -/
def hashFloatsSpec : ChangeSpec := { name := "hashFloats", fn := fun _ => fun
  | [d] => { results := [.lit (.bool true)], args := [d] }
  | _ => none }
def hashFloatsRow : OpenClaim := { program := "ythmnaocoogfidaa", sum := "0a75411a2ae2bbe7334eaaa56c782868c8c2a63f85ba0b459520804184422f57", func := "rialto/rialtolaw10.HashFloats", spec := "hashFloats", inPlace := ["math.Float64bits", "internal/bytealg.abigen_runtime_cmpstring", "slices.overlaps[int64]", "math.Float64frombits"], unfollowed := true, recurses := true, apart := false }
def HashFloatsSaid : Prop := hashFloatsRow.holds Try.pinned (OpenSpec.ofChange hashFloatsSpec)

/-- ITS FALSE NEIGHBOUR: 'it returns false'. Refute it at one input. -/
def hashFloatsWrong : ChangeSpec := { name := "hashFloats", fn := fun _ => fun
  | [d] => { results := [.lit (.bool false)], args := [d] }
  | _ => none }
def HashFloatsWrongFalsely : Prop := hashFloatsRow.holds Try.pinned (OpenSpec.ofChange hashFloatsWrong)

/-- 'rialtolaw10.HashRows': WHATEVER THE INPUT: true; the input reads as it did. -/
def hashRowsSpec : ChangeSpec := { name := "hashRows", fn := fun _ => fun
  | [d1, d2] => { results := [.lit (.bool true)], args := [d1, d2] }
  | _ => none }
def hashRowsRow : OpenClaim := { program := "ythmnaocoogfidaa", sum := "0a75411a2ae2bbe7334eaaa56c782868c8c2a63f85ba0b459520804184422f57", func := "rialto/rialtolaw10.HashRows", spec := "hashRows", inPlace := ["math.Float64bits", "internal/bytealg.abigen_runtime_cmpstring", "slices.overlaps[int64]"], unfollowed := true, recurses := true, apart := false }
def HashRowsSaid : Prop := hashRowsRow.holds Try.pinned (OpenSpec.ofChange hashRowsSpec)

/-- ITS FALSE NEIGHBOUR: 'it returns false'. Refute it at one input. -/
def hashRowsWrong : ChangeSpec := { name := "hashRows", fn := fun _ => fun
  | [d1, d2] => { results := [.lit (.bool false)], args := [d1, d2] }
  | _ => none }
def HashRowsWrongFalsely : Prop := hashRowsRow.holds Try.pinned (OpenSpec.ofChange hashRowsWrong)

/-- 'rialtolaw10.HashChains': WHATEVER THE INPUT: true; the input reads as it did. -/
def hashChainsSpec : ChangeSpec := { name := "hashChains", fn := fun _ => fun
  | [d1, d2] => { results := [.lit (.bool true)], args := [d1, d2] }
  | _ => none }
def hashChainsRow : OpenClaim := { program := "ythmnaocoogfidaa", sum := "0a75411a2ae2bbe7334eaaa56c782868c8c2a63f85ba0b459520804184422f57", func := "rialto/rialtolaw10.HashChains", spec := "hashChains", inPlace := ["math.Float64bits", "internal/bytealg.abigen_runtime_cmpstring", "slices.overlaps[int64]"], unfollowed := true, recurses := true, apart := false }
def HashChainsSaid : Prop := hashChainsRow.holds Try.pinned (OpenSpec.ofChange hashChainsSpec)

/-- ITS FALSE NEIGHBOUR: 'it returns false'. Refute it at one input. -/
def hashChainsWrong : ChangeSpec := { name := "hashChains", fn := fun _ => fun
  | [d1, d2] => { results := [.lit (.bool false)], args := [d1, d2] }
  | _ => none }
def HashChainsWrongFalsely : Prop := hashChainsRow.holds Try.pinned (OpenSpec.ofChange hashChainsWrong)

/-- 'rialtolaw10.HashPlays': WHATEVER THE INPUT: true; the input reads as it did. -/
def hashPlaysSpec : ChangeSpec := { name := "hashPlays", fn := fun _ => fun
  | [d1, d2] => { results := [.lit (.bool true)], args := [d1, d2] }
  | _ => none }
def hashPlaysRow : OpenClaim := { program := "ythmnaocoogfidaa", sum := "0a75411a2ae2bbe7334eaaa56c782868c8c2a63f85ba0b459520804184422f57", func := "rialto/rialtolaw10.HashPlays", spec := "hashPlays", inPlace := ["math.Float64bits", "internal/bytealg.abigen_runtime_cmpstring", "slices.overlaps[int64]"], unfollowed := true, recurses := true, apart := false }
def HashPlaysSaid : Prop := hashPlaysRow.holds Try.pinned (OpenSpec.ofChange hashPlaysSpec)

/-- ITS FALSE NEIGHBOUR: 'it returns false'. Refute it at one input. -/
def hashPlaysWrong : ChangeSpec := { name := "hashPlays", fn := fun _ => fun
  | [d1, d2] => { results := [.lit (.bool false)], args := [d1, d2] }
  | _ => none }
def HashPlaysWrongFalsely : Prop := hashPlaysRow.holds Try.pinned (OpenSpec.ofChange hashPlaysWrong)

/-- 'rialtolaw15.TrieBytes': WHATEVER THE INPUT: true; the input reads as it did. -/
def trieBytesSpec : ChangeSpec := { name := "trieBytes", fn := fun _ => fun
  | [d] => { results := [.lit (.bool true)], args := [d] }
  | _ => none }
def trieBytesRow : OpenClaim := { program := "ythmnaocoogfidaa", sum := "0a75411a2ae2bbe7334eaaa56c782868c8c2a63f85ba0b459520804184422f57", func := "rialto/rialtolaw15.TrieBytes", spec := "trieBytes", inPlace := ["slices.overlaps[int64]"], unfollowed := true, recurses := true, apart := false }
def TrieBytesSaid : Prop := trieBytesRow.holds Try.pinned (OpenSpec.ofChange trieBytesSpec)

/-- ITS FALSE NEIGHBOUR: 'it returns false'. Refute it at one input. -/
def trieBytesWrong : ChangeSpec := { name := "trieBytes", fn := fun _ => fun
  | [d] => { results := [.lit (.bool false)], args := [d] }
  | _ => none }
def TrieBytesWrongFalsely : Prop := trieBytesRow.holds Try.pinned (OpenSpec.ofChange trieBytesWrong)

/-- 'rialtolaw15.TrieNests': WHATEVER THE INPUT: true; the input reads as it did. -/
def trieNestsSpec : ChangeSpec := { name := "trieNests", fn := fun _ => fun
  | [d1, d2, d3] => { results := [.lit (.bool true)], args := [d1, d2, d3] }
  | _ => none }
def trieNestsRow : OpenClaim := { program := "ythmnaocoogfidaa", sum := "0a75411a2ae2bbe7334eaaa56c782868c8c2a63f85ba0b459520804184422f57", func := "rialto/rialtolaw15.TrieNests", spec := "trieNests", inPlace := ["slices.overlaps[int64]"], unfollowed := true, recurses := true, apart := false }
def TrieNestsSaid : Prop := trieNestsRow.holds Try.pinned (OpenSpec.ofChange trieNestsSpec)

/-- ITS FALSE NEIGHBOUR: 'it returns false'. Refute it at one input. -/
def trieNestsWrong : ChangeSpec := { name := "trieNests", fn := fun _ => fun
  | [d1, d2, d3] => { results := [.lit (.bool false)], args := [d1, d2, d3] }
  | _ => none }
def TrieNestsWrongFalsely : Prop := trieNestsRow.holds Try.pinned (OpenSpec.ofChange trieNestsWrong)

/-- 'rialtolaw15.TrieGone': WHATEVER THE INPUT: true; the input reads as it did. -/
def trieGoneSpec : ChangeSpec := { name := "trieGone", fn := fun _ => fun
  | [d1, d2] => { results := [.lit (.bool true)], args := [d1, d2] }
  | _ => none }
def trieGoneRow : OpenClaim := { program := "ythmnaocoogfidaa", sum := "0a75411a2ae2bbe7334eaaa56c782868c8c2a63f85ba0b459520804184422f57", func := "rialto/rialtolaw15.TrieGone", spec := "trieGone", inPlace := ["slices.overlaps[int64]"], unfollowed := true, recurses := true, apart := false }
def TrieGoneSaid : Prop := trieGoneRow.holds Try.pinned (OpenSpec.ofChange trieGoneSpec)

/-- ITS FALSE NEIGHBOUR: 'it returns false'. Refute it at one input. -/
def trieGoneWrong : ChangeSpec := { name := "trieGone", fn := fun _ => fun
  | [d1, d2] => { results := [.lit (.bool false)], args := [d1, d2] }
  | _ => none }
def TrieGoneWrongFalsely : Prop := trieGoneRow.holds Try.pinned (OpenSpec.ofChange trieGoneWrong)

/-- 'rialtolaw15.TriePlays': WHATEVER THE INPUT: true; the input reads as it did. -/
def triePlaysSpec : ChangeSpec := { name := "triePlays", fn := fun _ => fun
  | [d] => { results := [.lit (.bool true)], args := [d] }
  | _ => none }
def triePlaysRow : OpenClaim := { program := "ythmnaocoogfidaa", sum := "0a75411a2ae2bbe7334eaaa56c782868c8c2a63f85ba0b459520804184422f57", func := "rialto/rialtolaw15.TriePlays", spec := "triePlays", inPlace := ["slices.overlaps[int64]", "math.Float64bits"], unfollowed := true, recurses := true, apart := false }
def TriePlaysSaid : Prop := triePlaysRow.holds Try.pinned (OpenSpec.ofChange triePlaysSpec)

/-- ITS FALSE NEIGHBOUR: 'it returns false'. Refute it at one input. -/
def triePlaysWrong : ChangeSpec := { name := "triePlays", fn := fun _ => fun
  | [d] => { results := [.lit (.bool false)], args := [d] }
  | _ => none }
def TriePlaysWrongFalsely : Prop := triePlaysRow.holds Try.pinned (OpenSpec.ofChange triePlaysWrong)

/- THE SECOND FORM. 'bulk': how many values and letters a reading holds, each counted each time it is reached (what is shared counts as often as it is met; a slice's spare places count too). A statement '..UptoSaid' is the law's where the arguments, and the package variables that the reading takes, are together of bulk at most 1048576: NARROWER than '..Said'. Prove '..Said' where nothing that the law and all that it calls make is longer than what came in: it says more and counts as full. Else prove '..UptoSaid'. A law counts once. -/
mutual
def uptoBulk {H : Type} : DataW H → Nat
  | .lit (.string bytes) => bytes.length + 1
  | .lit _ => 1
  | .nil => 1
  | .ptr d => uptoBulk d + 1
  | .slice elems spare => uptoBulkAll elems + uptoBulkAll spare + 1
  | .agg parts => uptoBulkAll parts + 1
  | .iface _ d => uptoBulk d + 1
  | .map entries => uptoBulkEntries entries + 1
  | .held _ => 1
def uptoBulkAll {H : Type} : List (DataW H) → Nat
  | [] => 0
  | d :: r => uptoBulk d + uptoBulkAll r
def uptoBulkEntries {H : Type} : List (Lit × DataW H) → Nat
  | [] => 0
  | x :: r => uptoBulkEntry x + uptoBulkEntries r
def uptoBulkEntry {H : Type} : Lit × DataW H → Nat
  | (.string bytes, d) => bytes.length + uptoBulk d + 1
  | (_, d) => uptoBulk d + 1
 end
def uptoSmall : (H : Type) → List (DataW H) → Bool := fun _ ds => decide (uptoBulkAll ds ≤ 1048576)
def OpenSpec.upto (s : _root_.Go.ChangeSpec) : _root_.Go.OpenSpec := { _root_.Go.OpenSpec.ofChange s with cond := some uptoSmall }

/-- 'rialtolaw20.PredCuts', WHERE WHAT IT READS IS OF BULK AT MOST 1048576: true; the input reads as it did. -/
def predCutsUptoRow : OpenClaim := { program := "ythmnaocoogfidaa", sum := "0a75411a2ae2bbe7334eaaa56c782868c8c2a63f85ba0b459520804184422f57", func := "rialto/rialtolaw20.PredCuts", spec := "predCuts", inPlace := ["internal/bytealg.abigen_runtime_cmpstring", "math.Float64bits"], unfollowed := true, recurses := true, apart := false, narrowed := true }
def PredCutsUptoSaid : Prop := predCutsUptoRow.holds Try.pinned (OpenSpec.upto predCutsSpec)

/-- 'rialtolaw20.PredOps', WHERE WHAT IT READS IS OF BULK AT MOST 1048576: true; the input reads as it did. -/
def predOpsUptoRow : OpenClaim := { program := "ythmnaocoogfidaa", sum := "0a75411a2ae2bbe7334eaaa56c782868c8c2a63f85ba0b459520804184422f57", func := "rialto/rialtolaw20.PredOps", spec := "predOps", inPlace := ["internal/bytealg.abigen_runtime_cmpstring", "math.Float64bits"], unfollowed := true, recurses := true, apart := false, narrowed := true }
def PredOpsUptoSaid : Prop := predOpsUptoRow.holds Try.pinned (OpenSpec.upto predOpsSpec)

/-- 'rialtolaw20.PredBegins', WHERE WHAT IT READS IS OF BULK AT MOST 1048576: true; the input reads as it did. -/
def predBeginsUptoRow : OpenClaim := { program := "ythmnaocoogfidaa", sum := "0a75411a2ae2bbe7334eaaa56c782868c8c2a63f85ba0b459520804184422f57", func := "rialto/rialtolaw20.PredBegins", spec := "predBegins", inPlace := ["internal/bytealg.abigen_runtime_cmpstring", "math.Float64bits"], unfollowed := true, recurses := true, apart := false, narrowed := true }
def PredBeginsUptoSaid : Prop := predBeginsUptoRow.holds Try.pinned (OpenSpec.upto predBeginsSpec)

/-- 'rialtolaw20.PredFloats', WHERE WHAT IT READS IS OF BULK AT MOST 1048576: true; the input reads as it did. -/
def predFloatsUptoRow : OpenClaim := { program := "ythmnaocoogfidaa", sum := "0a75411a2ae2bbe7334eaaa56c782868c8c2a63f85ba0b459520804184422f57", func := "rialto/rialtolaw20.PredFloats", spec := "predFloats", inPlace := ["internal/bytealg.abigen_runtime_cmpstring", "math.Float64bits", "math.Float64frombits"], unfollowed := true, recurses := true, apart := false, narrowed := true }
def PredFloatsUptoSaid : Prop := predFloatsUptoRow.holds Try.pinned (OpenSpec.upto predFloatsSpec)

/-- 'rialtolaw20.PredAll', WHERE WHAT IT READS IS OF BULK AT MOST 1048576: true; the input reads as it did. -/
def predAllUptoRow : OpenClaim := { program := "ythmnaocoogfidaa", sum := "0a75411a2ae2bbe7334eaaa56c782868c8c2a63f85ba0b459520804184422f57", func := "rialto/rialtolaw20.PredAll", spec := "predAll", inPlace := ["internal/bytealg.abigen_runtime_cmpstring", "math.Float64bits"], unfollowed := true, recurses := true, apart := false, narrowed := true }
def PredAllUptoSaid : Prop := predAllUptoRow.holds Try.pinned (OpenSpec.upto predAllSpec)

/-- 'rialtolaw20.PredOrder', WHERE WHAT IT READS IS OF BULK AT MOST 1048576: true; the input reads as it did. -/
def predOrderUptoRow : OpenClaim := { program := "ythmnaocoogfidaa", sum := "0a75411a2ae2bbe7334eaaa56c782868c8c2a63f85ba0b459520804184422f57", func := "rialto/rialtolaw20.PredOrder", spec := "predOrder", inPlace := ["internal/bytealg.abigen_runtime_cmpstring", "math.Float64bits"], unfollowed := true, recurses := true, apart := false, narrowed := true }
def PredOrderUptoSaid : Prop := predOrderUptoRow.holds Try.pinned (OpenSpec.upto predOrderSpec)

/-- 'rialtolaw20.PredTells', WHERE WHAT IT READS IS OF BULK AT MOST 1048576: true; the input reads as it did. -/
def predTellsUptoRow : OpenClaim := { program := "ythmnaocoogfidaa", sum := "0a75411a2ae2bbe7334eaaa56c782868c8c2a63f85ba0b459520804184422f57", func := "rialto/rialtolaw20.PredTells", spec := "predTells", inPlace := ["internal/bytealg.abigen_runtime_cmpstring", "math.Float64bits"], unfollowed := true, recurses := true, apart := false, narrowed := true }
def PredTellsUptoSaid : Prop := predTellsUptoRow.holds Try.pinned (OpenSpec.upto predTellsSpec)

/-- 'rialtolaw10.HashFloats', WHERE WHAT IT READS IS OF BULK AT MOST 1048576: true; the input reads as it did. -/
def hashFloatsUptoRow : OpenClaim := { program := "ythmnaocoogfidaa", sum := "0a75411a2ae2bbe7334eaaa56c782868c8c2a63f85ba0b459520804184422f57", func := "rialto/rialtolaw10.HashFloats", spec := "hashFloats", inPlace := ["math.Float64bits", "internal/bytealg.abigen_runtime_cmpstring", "slices.overlaps[int64]", "math.Float64frombits"], unfollowed := true, recurses := true, apart := false, narrowed := true }
def HashFloatsUptoSaid : Prop := hashFloatsUptoRow.holds Try.pinned (OpenSpec.upto hashFloatsSpec)

/-- 'rialtolaw10.HashRows', WHERE WHAT IT READS IS OF BULK AT MOST 1048576: true; the input reads as it did. -/
def hashRowsUptoRow : OpenClaim := { program := "ythmnaocoogfidaa", sum := "0a75411a2ae2bbe7334eaaa56c782868c8c2a63f85ba0b459520804184422f57", func := "rialto/rialtolaw10.HashRows", spec := "hashRows", inPlace := ["math.Float64bits", "internal/bytealg.abigen_runtime_cmpstring", "slices.overlaps[int64]"], unfollowed := true, recurses := true, apart := false, narrowed := true }
def HashRowsUptoSaid : Prop := hashRowsUptoRow.holds Try.pinned (OpenSpec.upto hashRowsSpec)

/-- 'rialtolaw10.HashChains', WHERE WHAT IT READS IS OF BULK AT MOST 1048576: true; the input reads as it did. -/
def hashChainsUptoRow : OpenClaim := { program := "ythmnaocoogfidaa", sum := "0a75411a2ae2bbe7334eaaa56c782868c8c2a63f85ba0b459520804184422f57", func := "rialto/rialtolaw10.HashChains", spec := "hashChains", inPlace := ["math.Float64bits", "internal/bytealg.abigen_runtime_cmpstring", "slices.overlaps[int64]"], unfollowed := true, recurses := true, apart := false, narrowed := true }
def HashChainsUptoSaid : Prop := hashChainsUptoRow.holds Try.pinned (OpenSpec.upto hashChainsSpec)

/-- 'rialtolaw10.HashPlays', WHERE WHAT IT READS IS OF BULK AT MOST 1048576: true; the input reads as it did. -/
def hashPlaysUptoRow : OpenClaim := { program := "ythmnaocoogfidaa", sum := "0a75411a2ae2bbe7334eaaa56c782868c8c2a63f85ba0b459520804184422f57", func := "rialto/rialtolaw10.HashPlays", spec := "hashPlays", inPlace := ["math.Float64bits", "internal/bytealg.abigen_runtime_cmpstring", "slices.overlaps[int64]"], unfollowed := true, recurses := true, apart := false, narrowed := true }
def HashPlaysUptoSaid : Prop := hashPlaysUptoRow.holds Try.pinned (OpenSpec.upto hashPlaysSpec)

/-- 'rialtolaw15.TrieBytes', WHERE WHAT IT READS IS OF BULK AT MOST 1048576: true; the input reads as it did. -/
def trieBytesUptoRow : OpenClaim := { program := "ythmnaocoogfidaa", sum := "0a75411a2ae2bbe7334eaaa56c782868c8c2a63f85ba0b459520804184422f57", func := "rialto/rialtolaw15.TrieBytes", spec := "trieBytes", inPlace := ["slices.overlaps[int64]"], unfollowed := true, recurses := true, apart := false, narrowed := true }
def TrieBytesUptoSaid : Prop := trieBytesUptoRow.holds Try.pinned (OpenSpec.upto trieBytesSpec)

/-- 'rialtolaw15.TrieNests', WHERE WHAT IT READS IS OF BULK AT MOST 1048576: true; the input reads as it did. -/
def trieNestsUptoRow : OpenClaim := { program := "ythmnaocoogfidaa", sum := "0a75411a2ae2bbe7334eaaa56c782868c8c2a63f85ba0b459520804184422f57", func := "rialto/rialtolaw15.TrieNests", spec := "trieNests", inPlace := ["slices.overlaps[int64]"], unfollowed := true, recurses := true, apart := false, narrowed := true }
def TrieNestsUptoSaid : Prop := trieNestsUptoRow.holds Try.pinned (OpenSpec.upto trieNestsSpec)

/-- 'rialtolaw15.TrieGone', WHERE WHAT IT READS IS OF BULK AT MOST 1048576: true; the input reads as it did. -/
def trieGoneUptoRow : OpenClaim := { program := "ythmnaocoogfidaa", sum := "0a75411a2ae2bbe7334eaaa56c782868c8c2a63f85ba0b459520804184422f57", func := "rialto/rialtolaw15.TrieGone", spec := "trieGone", inPlace := ["slices.overlaps[int64]"], unfollowed := true, recurses := true, apart := false, narrowed := true }
def TrieGoneUptoSaid : Prop := trieGoneUptoRow.holds Try.pinned (OpenSpec.upto trieGoneSpec)

/-- 'rialtolaw15.TriePlays', WHERE WHAT IT READS IS OF BULK AT MOST 1048576: true; the input reads as it did. -/
def triePlaysUptoRow : OpenClaim := { program := "ythmnaocoogfidaa", sum := "0a75411a2ae2bbe7334eaaa56c782868c8c2a63f85ba0b459520804184422f57", func := "rialto/rialtolaw15.TriePlays", spec := "triePlays", inPlace := ["slices.overlaps[int64]", "math.Float64bits"], unfollowed := true, recurses := true, apart := false, narrowed := true }
def TriePlaysUptoSaid : Prop := triePlaysUptoRow.holds Try.pinned (OpenSpec.upto triePlaysSpec)

end Rows
end Go.Proofs.Ythmnaocoogfidaa
