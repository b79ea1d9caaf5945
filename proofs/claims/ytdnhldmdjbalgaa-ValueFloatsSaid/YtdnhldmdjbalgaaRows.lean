/-
  No cell of these rows narrows 'for every input' (looked for: loops, veiled, ifaces, maps, wideKeys, modest, calm, conditions, laid).
  DERIVED. THE GIVEN ROWS OF THIS SEAT. 13 by the template 'for every input the law returns true; each argument reads behind the call as it read before'; 0 by the template 'total and deterministic' (their statements: YtdnhldmdjbalgaaTotals.lean).
  GIVEN WITH THE SEED: the statements are not yours to turn. If you find one false, say at which input.
  Laid BY PROGRAM, IN A SANDBOX (cutbox-rows.mjs): the forced cells as the released guide's own fill.sh prints them over the translation 4c4e4e1e534830da… (all of the seat's roots in one cut). By AI agents, Wed Nov 11 2026. No macro, syntax, notation, axiom, sorry.
-/
import Derived.Test.YtdnhldmdjbalgaaChecked
import GoSem.Claim
import GoSem.ClaimJoined
import GoSem.ClaimMapViews
import Derived.JoinedTies
import Derived.KernelRfl
namespace Go.Proofs.Ytdnhldmdjbalgaa
/- THE CELL 'sum', in the pinned program and in every row, IS THE sha256 OF THE DUMP (.gsa) THAT YtdnhldmdjbalgaaProg.lean LOADS. Nothing in Lean hashes anything: it is a label: what it is worth is what the hold of that sum in a sandbox is worth. -/
noncomputable def Try.pinned : Pinned := { name := "ytdnhldmdjbalgaa", sum := "4c4e4e1e534830dad5c65e0566bad00e8d3360ada3d13c50f5596d05916493a6", checked := Try.checked }
namespace Rows
def none {H : Type} : Left H := { results := [], args := [] }

/-- 'rialtolaw1.BitsTells': WHATEVER THE INPUT: true; the input reads as it did. -/
def bitsTellsSpec : ChangeSpec := { name := "bitsTells", fn := fun _ => fun
  | [d1, d2] => { results := [.lit (.bool true)], args := [d1, d2] }
  | _ => none }
def bitsTellsRow : OpenClaim := { program := "ytdnhldmdjbalgaa", sum := "4c4e4e1e534830dad5c65e0566bad00e8d3360ada3d13c50f5596d05916493a6", func := "rialto/rialtolaw1.BitsTells", spec := "bitsTells", inPlace := ["math.Float64bits", "math.Float64frombits"], apart := false }
def BitsTellsSaid : Prop := bitsTellsRow.holds Try.pinned (OpenSpec.ofChange bitsTellsSpec)

/-- ITS FALSE NEIGHBOUR: 'it returns false'. Refute it at one input. -/
def bitsTellsWrong : ChangeSpec := { name := "bitsTells", fn := fun _ => fun
  | [d1, d2] => { results := [.lit (.bool false)], args := [d1, d2] }
  | _ => none }
def BitsTellsWrongFalsely : Prop := bitsTellsRow.holds Try.pinned (OpenSpec.ofChange bitsTellsWrong)

/-- 'rialtolaw1.BitsNext': WHATEVER THE INPUT: true; the input reads as it did. -/
def bitsNextSpec : ChangeSpec := { name := "bitsNext", fn := fun _ => fun
  | [d1, d2] => { results := [.lit (.bool true)], args := [d1, d2] }
  | _ => none }
def bitsNextRow : OpenClaim := { program := "ytdnhldmdjbalgaa", sum := "4c4e4e1e534830dad5c65e0566bad00e8d3360ada3d13c50f5596d05916493a6", func := "rialto/rialtolaw1.BitsNext", spec := "bitsNext", inPlace := ["math.Float64bits", "math.Float64frombits"], apart := false }
def BitsNextSaid : Prop := bitsNextRow.holds Try.pinned (OpenSpec.ofChange bitsNextSpec)

/-- ITS FALSE NEIGHBOUR: 'it returns false'. Refute it at one input. -/
def bitsNextWrong : ChangeSpec := { name := "bitsNext", fn := fun _ => fun
  | [d1, d2] => { results := [.lit (.bool false)], args := [d1, d2] }
  | _ => none }
def BitsNextWrongFalsely : Prop := bitsNextRow.holds Try.pinned (OpenSpec.ofChange bitsNextWrong)

/-- 'rialtolaw1.BitsSteps': WHATEVER THE INPUT: true; the input reads as it did. -/
def bitsStepsSpec : ChangeSpec := { name := "bitsSteps", fn := fun _ => fun
  | [d1, d2] => { results := [.lit (.bool true)], args := [d1, d2] }
  | _ => none }
def bitsStepsRow : OpenClaim := { program := "ytdnhldmdjbalgaa", sum := "4c4e4e1e534830dad5c65e0566bad00e8d3360ada3d13c50f5596d05916493a6", func := "rialto/rialtolaw1.BitsSteps", spec := "bitsSteps", inPlace := ["math.Float64bits", "math.Float64frombits"], apart := false }
def BitsStepsSaid : Prop := bitsStepsRow.holds Try.pinned (OpenSpec.ofChange bitsStepsSpec)

/-- ITS FALSE NEIGHBOUR: 'it returns false'. Refute it at one input. -/
def bitsStepsWrong : ChangeSpec := { name := "bitsSteps", fn := fun _ => fun
  | [d1, d2] => { results := [.lit (.bool false)], args := [d1, d2] }
  | _ => none }
def BitsStepsWrongFalsely : Prop := bitsStepsRow.holds Try.pinned (OpenSpec.ofChange bitsStepsWrong)

/-- 'rialtolaw1.BitsTurns': WHATEVER THE INPUT: true; the input reads as it did. -/
def bitsTurnsSpec : ChangeSpec := { name := "bitsTurns", fn := fun _ => fun
  | [d1, d2] => { results := [.lit (.bool true)], args := [d1, d2] }
  | _ => none }
def bitsTurnsRow : OpenClaim := { program := "ytdnhldmdjbalgaa", sum := "4c4e4e1e534830dad5c65e0566bad00e8d3360ada3d13c50f5596d05916493a6", func := "rialto/rialtolaw1.BitsTurns", spec := "bitsTurns", inPlace := ["math.Float64bits", "math.Float64frombits"], apart := false }
def BitsTurnsSaid : Prop := bitsTurnsRow.holds Try.pinned (OpenSpec.ofChange bitsTurnsSpec)

/-- ITS FALSE NEIGHBOUR: 'it returns false'. Refute it at one input. -/
def bitsTurnsWrong : ChangeSpec := { name := "bitsTurns", fn := fun _ => fun
  | [d1, d2] => { results := [.lit (.bool false)], args := [d1, d2] }
  | _ => none }
def BitsTurnsWrongFalsely : Prop := bitsTurnsRow.holds Try.pinned (OpenSpec.ofChange bitsTurnsWrong)

/-- 'rialtolaw1.BitsSums': WHATEVER THE INPUT: true; the input reads as it did. -/
def bitsSumsSpec : ChangeSpec := { name := "bitsSums", fn := fun _ => fun
  | [d1, d2, d3] => { results := [.lit (.bool true)], args := [d1, d2, d3] }
  | _ => none }
def bitsSumsRow : OpenClaim := { program := "ytdnhldmdjbalgaa", sum := "4c4e4e1e534830dad5c65e0566bad00e8d3360ada3d13c50f5596d05916493a6", func := "rialto/rialtolaw1.BitsSums", spec := "bitsSums", inPlace := ["math.Float64bits", "math.Float64frombits"], apart := false }
def BitsSumsSaid : Prop := bitsSumsRow.holds Try.pinned (OpenSpec.ofChange bitsSumsSpec)

/-- ITS FALSE NEIGHBOUR: 'it returns false'. Refute it at one input. -/
def bitsSumsWrong : ChangeSpec := { name := "bitsSums", fn := fun _ => fun
  | [d1, d2, d3] => { results := [.lit (.bool false)], args := [d1, d2, d3] }
  | _ => none }
def BitsSumsWrongFalsely : Prop := bitsSumsRow.holds Try.pinned (OpenSpec.ofChange bitsSumsWrong)

/-- 'rialtolaw2.ValueKinds': WHATEVER THE INPUT: true; the input reads as it did. -/
def valueKindsSpec : ChangeSpec := { name := "valueKinds", fn := fun _ => fun
  | [d1, d2] => { results := [.lit (.bool true)], args := [d1, d2] }
  | _ => none }
def valueKindsRow : OpenClaim := { program := "ytdnhldmdjbalgaa", sum := "4c4e4e1e534830dad5c65e0566bad00e8d3360ada3d13c50f5596d05916493a6", func := "rialto/rialtolaw2.ValueKinds", spec := "valueKinds", inPlace := ["internal/bytealg.abigen_runtime_cmpstring", "math.Float64bits", "math.Float64frombits"], apart := false }
def ValueKindsSaid : Prop := valueKindsRow.holds Try.pinned (OpenSpec.ofChange valueKindsSpec)

/-- ITS FALSE NEIGHBOUR: 'it returns false'. Refute it at one input. -/
def valueKindsWrong : ChangeSpec := { name := "valueKinds", fn := fun _ => fun
  | [d1, d2] => { results := [.lit (.bool false)], args := [d1, d2] }
  | _ => none }
def ValueKindsWrongFalsely : Prop := valueKindsRow.holds Try.pinned (OpenSpec.ofChange valueKindsWrong)

/-- 'rialtolaw1.BitsBack': WHATEVER THE INPUT: true; the input reads as it did. -/
def bitsBackSpec : ChangeSpec := { name := "bitsBack", fn := fun _ => fun
  | [d1, d2] => { results := [.lit (.bool true)], args := [d1, d2] }
  | _ => none }
def bitsBackRow : OpenClaim := { program := "ytdnhldmdjbalgaa", sum := "4c4e4e1e534830dad5c65e0566bad00e8d3360ada3d13c50f5596d05916493a6", func := "rialto/rialtolaw1.BitsBack", spec := "bitsBack", inPlace := ["math.Float64bits", "math.Float64frombits"], apart := false }
def BitsBackSaid : Prop := bitsBackRow.holds Try.pinned (OpenSpec.ofChange bitsBackSpec)

/-- ITS FALSE NEIGHBOUR: 'it returns false'. Refute it at one input. -/
def bitsBackWrong : ChangeSpec := { name := "bitsBack", fn := fun _ => fun
  | [d1, d2] => { results := [.lit (.bool false)], args := [d1, d2] }
  | _ => none }
def BitsBackWrongFalsely : Prop := bitsBackRow.holds Try.pinned (OpenSpec.ofChange bitsBackWrong)

/-- 'rialtolaw1.BitsLeast': WHATEVER THE INPUT: true; the input reads as it did. -/
def bitsLeastSpec : ChangeSpec := { name := "bitsLeast", fn := fun _ => fun
  | [d] => { results := [.lit (.bool true)], args := [d] }
  | _ => none }
def bitsLeastRow : OpenClaim := { program := "ytdnhldmdjbalgaa", sum := "4c4e4e1e534830dad5c65e0566bad00e8d3360ada3d13c50f5596d05916493a6", func := "rialto/rialtolaw1.BitsLeast", spec := "bitsLeast", inPlace := ["math.Float64bits", "math.Float64frombits"], apart := false }
def BitsLeastSaid : Prop := bitsLeastRow.holds Try.pinned (OpenSpec.ofChange bitsLeastSpec)

/-- ITS FALSE NEIGHBOUR: 'it returns false'. Refute it at one input. -/
def bitsLeastWrong : ChangeSpec := { name := "bitsLeast", fn := fun _ => fun
  | [d] => { results := [.lit (.bool false)], args := [d] }
  | _ => none }
def BitsLeastWrongFalsely : Prop := bitsLeastRow.holds Try.pinned (OpenSpec.ofChange bitsLeastWrong)

/-- 'rialtolaw2.ValueTexts': WHATEVER THE INPUT: true; the input reads as it did. -/
def valueTextsSpec : ChangeSpec := { name := "valueTexts", fn := fun _ => fun
  | [d1, d2, d3] => { results := [.lit (.bool true)], args := [d1, d2, d3] }
  | _ => none }
def valueTextsRow : OpenClaim := { program := "ytdnhldmdjbalgaa", sum := "4c4e4e1e534830dad5c65e0566bad00e8d3360ada3d13c50f5596d05916493a6", func := "rialto/rialtolaw2.ValueTexts", spec := "valueTexts", inPlace := ["internal/bytealg.abigen_runtime_cmpstring", "math.Float64bits", "math.Float64frombits"], apart := false }
def ValueTextsSaid : Prop := valueTextsRow.holds Try.pinned (OpenSpec.ofChange valueTextsSpec)

/-- ITS FALSE NEIGHBOUR: 'it returns false'. Refute it at one input. -/
def valueTextsWrong : ChangeSpec := { name := "valueTexts", fn := fun _ => fun
  | [d1, d2, d3] => { results := [.lit (.bool false)], args := [d1, d2, d3] }
  | _ => none }
def ValueTextsWrongFalsely : Prop := valueTextsRow.holds Try.pinned (OpenSpec.ofChange valueTextsWrong)

/-- 'rialtolaw2.ValueFloats': WHATEVER THE INPUT: true; the input reads as it did. -/
def valueFloatsSpec : ChangeSpec := { name := "valueFloats", fn := fun _ => fun
  | [d1, d2] => { results := [.lit (.bool true)], args := [d1, d2] }
  | _ => none }
def valueFloatsRow : OpenClaim := { program := "ytdnhldmdjbalgaa", sum := "4c4e4e1e534830dad5c65e0566bad00e8d3360ada3d13c50f5596d05916493a6", func := "rialto/rialtolaw2.ValueFloats", spec := "valueFloats", inPlace := ["internal/bytealg.abigen_runtime_cmpstring", "math.Float64bits", "math.Float64frombits"], apart := false }
def ValueFloatsSaid : Prop := valueFloatsRow.holds Try.pinned (OpenSpec.ofChange valueFloatsSpec)

/-- ITS FALSE NEIGHBOUR: 'it returns false'. Refute it at one input. -/
def valueFloatsWrong : ChangeSpec := { name := "valueFloats", fn := fun _ => fun
  | [d1, d2] => { results := [.lit (.bool false)], args := [d1, d2] }
  | _ => none }
def ValueFloatsWrongFalsely : Prop := valueFloatsRow.holds Try.pinned (OpenSpec.ofChange valueFloatsWrong)

/-- 'rialtolaw2.ValueHash': WHATEVER THE INPUT: true; the input reads as it did. -/
def valueHashSpec : ChangeSpec := { name := "valueHash", fn := fun _ => fun
  | [d1, d2] => { results := [.lit (.bool true)], args := [d1, d2] }
  | _ => none }
def valueHashRow : OpenClaim := { program := "ytdnhldmdjbalgaa", sum := "4c4e4e1e534830dad5c65e0566bad00e8d3360ada3d13c50f5596d05916493a6", func := "rialto/rialtolaw2.ValueHash", spec := "valueHash", inPlace := ["internal/bytealg.abigen_runtime_cmpstring", "math.Float64bits", "math.Float64frombits"], apart := false }
def ValueHashSaid : Prop := valueHashRow.holds Try.pinned (OpenSpec.ofChange valueHashSpec)

/-- ITS FALSE NEIGHBOUR: 'it returns false'. Refute it at one input. -/
def valueHashWrong : ChangeSpec := { name := "valueHash", fn := fun _ => fun
  | [d1, d2] => { results := [.lit (.bool false)], args := [d1, d2] }
  | _ => none }
def ValueHashWrongFalsely : Prop := valueHashRow.holds Try.pinned (OpenSpec.ofChange valueHashWrong)

/-- 'rialtolaw2.ValueTells': WHATEVER THE INPUT: true; the input reads as it did. -/
def valueTellsSpec : ChangeSpec := { name := "valueTells", fn := fun _ => fun
  | [d1, d2, d3, d4, d5] => { results := [.lit (.bool true)], args := [d1, d2, d3, d4, d5] }
  | _ => none }
def valueTellsRow : OpenClaim := { program := "ytdnhldmdjbalgaa", sum := "4c4e4e1e534830dad5c65e0566bad00e8d3360ada3d13c50f5596d05916493a6", func := "rialto/rialtolaw2.ValueTells", spec := "valueTells", inPlace := ["internal/bytealg.abigen_runtime_cmpstring", "math.Float64bits", "math.Float64frombits"], apart := false }
def ValueTellsSaid : Prop := valueTellsRow.holds Try.pinned (OpenSpec.ofChange valueTellsSpec)

/-- ITS FALSE NEIGHBOUR: 'it returns false'. Refute it at one input. -/
def valueTellsWrong : ChangeSpec := { name := "valueTells", fn := fun _ => fun
  | [d1, d2, d3, d4, d5] => { results := [.lit (.bool false)], args := [d1, d2, d3, d4, d5] }
  | _ => none }
def ValueTellsWrongFalsely : Prop := valueTellsRow.holds Try.pinned (OpenSpec.ofChange valueTellsWrong)

/-- 'rialtolaw2.ValueOrder': WHATEVER THE INPUT: true; the input reads as it did. -/
def valueOrderSpec : ChangeSpec := { name := "valueOrder", fn := fun _ => fun
  | [d1, d2, d3] => { results := [.lit (.bool true)], args := [d1, d2, d3] }
  | _ => none }
def valueOrderRow : OpenClaim := { program := "ytdnhldmdjbalgaa", sum := "4c4e4e1e534830dad5c65e0566bad00e8d3360ada3d13c50f5596d05916493a6", func := "rialto/rialtolaw2.ValueOrder", spec := "valueOrder", inPlace := ["internal/bytealg.abigen_runtime_cmpstring", "math.Float64bits", "math.Float64frombits"], apart := false }
def ValueOrderSaid : Prop := valueOrderRow.holds Try.pinned (OpenSpec.ofChange valueOrderSpec)

/-- ITS FALSE NEIGHBOUR: 'it returns false'. Refute it at one input. -/
def valueOrderWrong : ChangeSpec := { name := "valueOrder", fn := fun _ => fun
  | [d1, d2, d3] => { results := [.lit (.bool false)], args := [d1, d2, d3] }
  | _ => none }
def ValueOrderWrongFalsely : Prop := valueOrderRow.holds Try.pinned (OpenSpec.ofChange valueOrderWrong)

/- THE SECOND FORM. 'bulk': how many values and letters a reading holds, each counted each time it is reached (what is shared counts as often as it is met; a slice's spare places count too). A statement '..UptoSaid' is the law's where the arguments, and the package variables that the reading takes, are together of bulk at most 1048576: NARROWER than '..Said'. Prove '..Said' where nothing that the law and all that it calls make is longer than what came in: it says more and counts as full. Else prove '..UptoSaid'. A law counts once. -/
mutual
def uptoBulk {H : Type} : DataW H → Nat
  | .lit (.string bytes) => bytes.length + 1
  | .lit _ => 1
  | .nil => 1
  | .ptr d => uptoBulk d + 1
  | .slice elems spare => uptoBulkAll elems + uptoBulkAll spare + 1
  | .agg parts => uptoBulkAll parts + 1
  | .iface _ d => uptoBulk d + 1
  | .map entries => uptoBulkEntries entries + 1
  | .held _ => 1
def uptoBulkAll {H : Type} : List (DataW H) → Nat
  | [] => 0
  | d :: r => uptoBulk d + uptoBulkAll r
def uptoBulkEntries {H : Type} : List (Lit × DataW H) → Nat
  | [] => 0
  | x :: r => uptoBulkEntry x + uptoBulkEntries r
def uptoBulkEntry {H : Type} : Lit × DataW H → Nat
  | (.string bytes, d) => bytes.length + uptoBulk d + 1
  | (_, d) => uptoBulk d + 1
 end
def uptoSmall : (H : Type) → List (DataW H) → Bool := fun _ ds => decide (uptoBulkAll ds ≤ 1048576)
def OpenSpec.upto (s : _root_.Go.ChangeSpec) : _root_.Go.OpenSpec := { _root_.Go.OpenSpec.ofChange s with cond := some uptoSmall }

/-- 'rialtolaw1.BitsTells', WHERE WHAT IT READS IS OF BULK AT MOST 1048576: true; the input reads as it did. -/
def bitsTellsUptoRow : OpenClaim := { program := "ytdnhldmdjbalgaa", sum := "4c4e4e1e534830dad5c65e0566bad00e8d3360ada3d13c50f5596d05916493a6", func := "rialto/rialtolaw1.BitsTells", spec := "bitsTells", inPlace := ["math.Float64bits", "math.Float64frombits"], apart := false, narrowed := true }
def BitsTellsUptoSaid : Prop := bitsTellsUptoRow.holds Try.pinned (OpenSpec.upto bitsTellsSpec)

/-- 'rialtolaw1.BitsNext', WHERE WHAT IT READS IS OF BULK AT MOST 1048576: true; the input reads as it did. -/
def bitsNextUptoRow : OpenClaim := { program := "ytdnhldmdjbalgaa", sum := "4c4e4e1e534830dad5c65e0566bad00e8d3360ada3d13c50f5596d05916493a6", func := "rialto/rialtolaw1.BitsNext", spec := "bitsNext", inPlace := ["math.Float64bits", "math.Float64frombits"], apart := false, narrowed := true }
def BitsNextUptoSaid : Prop := bitsNextUptoRow.holds Try.pinned (OpenSpec.upto bitsNextSpec)

/-- 'rialtolaw1.BitsSteps', WHERE WHAT IT READS IS OF BULK AT MOST 1048576: true; the input reads as it did. -/
def bitsStepsUptoRow : OpenClaim := { program := "ytdnhldmdjbalgaa", sum := "4c4e4e1e534830dad5c65e0566bad00e8d3360ada3d13c50f5596d05916493a6", func := "rialto/rialtolaw1.BitsSteps", spec := "bitsSteps", inPlace := ["math.Float64bits", "math.Float64frombits"], apart := false, narrowed := true }
def BitsStepsUptoSaid : Prop := bitsStepsUptoRow.holds Try.pinned (OpenSpec.upto bitsStepsSpec)

/-- 'rialtolaw1.BitsTurns', WHERE WHAT IT READS IS OF BULK AT MOST 1048576: true; the input reads as it did. -/
def bitsTurnsUptoRow : OpenClaim := { program := "ytdnhldmdjbalgaa", sum := "4c4e4e1e534830dad5c65e0566bad00e8d3360ada3d13c50f5596d05916493a6", func := "rialto/rialtolaw1.BitsTurns", spec := "bitsTurns", inPlace := ["math.Float64bits", "math.Float64frombits"], apart := false, narrowed := true }
def BitsTurnsUptoSaid : Prop := bitsTurnsUptoRow.holds Try.pinned (OpenSpec.upto bitsTurnsSpec)

/-- 'rialtolaw1.BitsSums', WHERE WHAT IT READS IS OF BULK AT MOST 1048576: true; the input reads as it did. -/
def bitsSumsUptoRow : OpenClaim := { program := "ytdnhldmdjbalgaa", sum := "4c4e4e1e534830dad5c65e0566bad00e8d3360ada3d13c50f5596d05916493a6", func := "rialto/rialtolaw1.BitsSums", spec := "bitsSums", inPlace := ["math.Float64bits", "math.Float64frombits"], apart := false, narrowed := true }
def BitsSumsUptoSaid : Prop := bitsSumsUptoRow.holds Try.pinned (OpenSpec.upto bitsSumsSpec)

/-- 'rialtolaw2.ValueKinds', WHERE WHAT IT READS IS OF BULK AT MOST 1048576: true; the input reads as it did. -/
def valueKindsUptoRow : OpenClaim := { program := "ytdnhldmdjbalgaa", sum := "4c4e4e1e534830dad5c65e0566bad00e8d3360ada3d13c50f5596d05916493a6", func := "rialto/rialtolaw2.ValueKinds", spec := "valueKinds", inPlace := ["internal/bytealg.abigen_runtime_cmpstring", "math.Float64bits", "math.Float64frombits"], apart := false, narrowed := true }
def ValueKindsUptoSaid : Prop := valueKindsUptoRow.holds Try.pinned (OpenSpec.upto valueKindsSpec)

/-- 'rialtolaw1.BitsBack', WHERE WHAT IT READS IS OF BULK AT MOST 1048576: true; the input reads as it did. -/
def bitsBackUptoRow : OpenClaim := { program := "ytdnhldmdjbalgaa", sum := "4c4e4e1e534830dad5c65e0566bad00e8d3360ada3d13c50f5596d05916493a6", func := "rialto/rialtolaw1.BitsBack", spec := "bitsBack", inPlace := ["math.Float64bits", "math.Float64frombits"], apart := false, narrowed := true }
def BitsBackUptoSaid : Prop := bitsBackUptoRow.holds Try.pinned (OpenSpec.upto bitsBackSpec)

/-- 'rialtolaw1.BitsLeast', WHERE WHAT IT READS IS OF BULK AT MOST 1048576: true; the input reads as it did. -/
def bitsLeastUptoRow : OpenClaim := { program := "ytdnhldmdjbalgaa", sum := "4c4e4e1e534830dad5c65e0566bad00e8d3360ada3d13c50f5596d05916493a6", func := "rialto/rialtolaw1.BitsLeast", spec := "bitsLeast", inPlace := ["math.Float64bits", "math.Float64frombits"], apart := false, narrowed := true }
def BitsLeastUptoSaid : Prop := bitsLeastUptoRow.holds Try.pinned (OpenSpec.upto bitsLeastSpec)

/-- 'rialtolaw2.ValueTexts', WHERE WHAT IT READS IS OF BULK AT MOST 1048576: true; the input reads as it did. -/
def valueTextsUptoRow : OpenClaim := { program := "ytdnhldmdjbalgaa", sum := "4c4e4e1e534830dad5c65e0566bad00e8d3360ada3d13c50f5596d05916493a6", func := "rialto/rialtolaw2.ValueTexts", spec := "valueTexts", inPlace := ["internal/bytealg.abigen_runtime_cmpstring", "math.Float64bits", "math.Float64frombits"], apart := false, narrowed := true }
def ValueTextsUptoSaid : Prop := valueTextsUptoRow.holds Try.pinned (OpenSpec.upto valueTextsSpec)

/-- 'rialtolaw2.ValueFloats', WHERE WHAT IT READS IS OF BULK AT MOST 1048576: true; the input reads as it did. -/
def valueFloatsUptoRow : OpenClaim := { program := "ytdnhldmdjbalgaa", sum := "4c4e4e1e534830dad5c65e0566bad00e8d3360ada3d13c50f5596d05916493a6", func := "rialto/rialtolaw2.ValueFloats", spec := "valueFloats", inPlace := ["internal/bytealg.abigen_runtime_cmpstring", "math.Float64bits", "math.Float64frombits"], apart := false, narrowed := true }
def ValueFloatsUptoSaid : Prop := valueFloatsUptoRow.holds Try.pinned (OpenSpec.upto valueFloatsSpec)

/-- 'rialtolaw2.ValueHash', WHERE WHAT IT READS IS OF BULK AT MOST 1048576: true; the input reads as it did. -/
def valueHashUptoRow : OpenClaim := { program := "ytdnhldmdjbalgaa", sum := "4c4e4e1e534830dad5c65e0566bad00e8d3360ada3d13c50f5596d05916493a6", func := "rialto/rialtolaw2.ValueHash", spec := "valueHash", inPlace := ["internal/bytealg.abigen_runtime_cmpstring", "math.Float64bits", "math.Float64frombits"], apart := false, narrowed := true }
def ValueHashUptoSaid : Prop := valueHashUptoRow.holds Try.pinned (OpenSpec.upto valueHashSpec)

/-- 'rialtolaw2.ValueTells', WHERE WHAT IT READS IS OF BULK AT MOST 1048576: true; the input reads as it did. -/
def valueTellsUptoRow : OpenClaim := { program := "ytdnhldmdjbalgaa", sum := "4c4e4e1e534830dad5c65e0566bad00e8d3360ada3d13c50f5596d05916493a6", func := "rialto/rialtolaw2.ValueTells", spec := "valueTells", inPlace := ["internal/bytealg.abigen_runtime_cmpstring", "math.Float64bits", "math.Float64frombits"], apart := false, narrowed := true }
def ValueTellsUptoSaid : Prop := valueTellsUptoRow.holds Try.pinned (OpenSpec.upto valueTellsSpec)

/-- 'rialtolaw2.ValueOrder', WHERE WHAT IT READS IS OF BULK AT MOST 1048576: true; the input reads as it did. -/
def valueOrderUptoRow : OpenClaim := { program := "ytdnhldmdjbalgaa", sum := "4c4e4e1e534830dad5c65e0566bad00e8d3360ada3d13c50f5596d05916493a6", func := "rialto/rialtolaw2.ValueOrder", spec := "valueOrder", inPlace := ["internal/bytealg.abigen_runtime_cmpstring", "math.Float64bits", "math.Float64frombits"], apart := false, narrowed := true }
def ValueOrderUptoSaid : Prop := valueOrderUptoRow.holds Try.pinned (OpenSpec.upto valueOrderSpec)

end Rows
end Go.Proofs.Ytdnhldmdjbalgaa
