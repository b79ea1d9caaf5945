/-
  No cell of these rows narrows 'for every input' (looked for: loops, veiled, ifaces, maps, wideKeys, modest, calm, conditions, laid).
  DERIVED. THE GIVEN ROWS OF THIS SEAT. 4 by the template 'for every input the law returns true; each argument reads behind the call as it read before'; 0 by the template 'total and deterministic' (their statements: YtijegkiapbmekaaTotals.lean).
  GIVEN WITH THE SEED: the statements are not yours to turn. If you find one false, say at which input.
  Laid BY PROGRAM, IN A SANDBOX (cutbox-rows.mjs): the forced cells as the released guide's own fill.sh prints them over the translation 8b7b17a947723de6… (all of the seat's roots in one cut). By AI agents, Wed Nov 11 2026. No macro, syntax, notation, axiom, sorry.
-/
import Derived.Test.YtijegkiapbmekaaChecked
import GoSem.Claim
import GoSem.ClaimJoined
import GoSem.ClaimMapViews
import Derived.JoinedTies
import Derived.KernelRfl
namespace Go.Proofs.Ytijegkiapbmekaa
/- THE CELL 'sum', in the pinned program and in every row, IS THE sha256 OF THE DUMP (.gsa) THAT YtijegkiapbmekaaProg.lean LOADS. Nothing in Lean hashes anything: it is a label: what it is worth is what the hold of that sum in a sandbox is worth. -/
noncomputable def Try.pinned : Pinned := { name := "ytijegkiapbmekaa", sum := "8b7b17a947723de6ed3fd374dc06906e9101989df119d1db87a70aada1abdd50", checked := Try.checked }
namespace Rows
def none {H : Type} : Left H := { results := [], args := [] }

/-- 'rialtolaw10.HashFloats': WHATEVER THE INPUT: true; the input reads as it did. -/
def hashFloatsSpec : ChangeSpec := { name := "hashFloats", fn := fun _ => fun
  | [d] => { results := [.lit (.bool true)], args := [d] }
  | _ => none }
def hashFloatsRow : OpenClaim := { program := "ytijegkiapbmekaa", sum := "8b7b17a947723de6ed3fd374dc06906e9101989df119d1db87a70aada1abdd50", func := "rialto/rialtolaw10.HashFloats", spec := "hashFloats", inPlace := ["math.Float64bits", "internal/bytealg.abigen_runtime_cmpstring", "slices.overlaps[int64]", "math.Float64frombits"], unfollowed := true, recurses := true, apart := false }
def HashFloatsSaid : Prop := hashFloatsRow.holds Try.pinned (OpenSpec.ofChange hashFloatsSpec)

/-- ITS FALSE NEIGHBOUR: 'it returns false'. Refute it at one input. -/
def hashFloatsWrong : ChangeSpec := { name := "hashFloats", fn := fun _ => fun
  | [d] => { results := [.lit (.bool false)], args := [d] }
  | _ => none }
def HashFloatsWrongFalsely : Prop := hashFloatsRow.holds Try.pinned (OpenSpec.ofChange hashFloatsWrong)

/-- 'rialtolaw10.HashRows': WHATEVER THE INPUT: true; the input reads as it did. -/
def hashRowsSpec : ChangeSpec := { name := "hashRows", fn := fun _ => fun
  | [d1, d2] => { results := [.lit (.bool true)], args := [d1, d2] }
  | _ => none }
def hashRowsRow : OpenClaim := { program := "ytijegkiapbmekaa", sum := "8b7b17a947723de6ed3fd374dc06906e9101989df119d1db87a70aada1abdd50", func := "rialto/rialtolaw10.HashRows", spec := "hashRows", inPlace := ["math.Float64bits", "internal/bytealg.abigen_runtime_cmpstring", "slices.overlaps[int64]"], unfollowed := true, recurses := true, apart := false }
def HashRowsSaid : Prop := hashRowsRow.holds Try.pinned (OpenSpec.ofChange hashRowsSpec)

/-- ITS FALSE NEIGHBOUR: 'it returns false'. Refute it at one input. -/
def hashRowsWrong : ChangeSpec := { name := "hashRows", fn := fun _ => fun
  | [d1, d2] => { results := [.lit (.bool false)], args := [d1, d2] }
  | _ => none }
def HashRowsWrongFalsely : Prop := hashRowsRow.holds Try.pinned (OpenSpec.ofChange hashRowsWrong)

/-- 'rialtolaw10.HashChains': WHATEVER THE INPUT: true; the input reads as it did. -/
def hashChainsSpec : ChangeSpec := { name := "hashChains", fn := fun _ => fun
  | [d1, d2] => { results := [.lit (.bool true)], args := [d1, d2] }
  | _ => none }
def hashChainsRow : OpenClaim := { program := "ytijegkiapbmekaa", sum := "8b7b17a947723de6ed3fd374dc06906e9101989df119d1db87a70aada1abdd50", func := "rialto/rialtolaw10.HashChains", spec := "hashChains", inPlace := ["math.Float64bits", "internal/bytealg.abigen_runtime_cmpstring", "slices.overlaps[int64]"], unfollowed := true, recurses := true, apart := false }
def HashChainsSaid : Prop := hashChainsRow.holds Try.pinned (OpenSpec.ofChange hashChainsSpec)

/-- ITS FALSE NEIGHBOUR: 'it returns false'. Refute it at one input. -/
def hashChainsWrong : ChangeSpec := { name := "hashChains", fn := fun _ => fun
  | [d1, d2] => { results := [.lit (.bool false)], args := [d1, d2] }
  | _ => none }
def HashChainsWrongFalsely : Prop := hashChainsRow.holds Try.pinned (OpenSpec.ofChange hashChainsWrong)

/-- 'rialtolaw10.HashPlays': WHATEVER THE INPUT: true; the input reads as it did. -/
def hashPlaysSpec : ChangeSpec := { name := "hashPlays", fn := fun _ => fun
  | [d1, d2] => { results := [.lit (.bool true)], args := [d1, d2] }
  | _ => none }
def hashPlaysRow : OpenClaim := { program := "ytijegkiapbmekaa", sum := "8b7b17a947723de6ed3fd374dc06906e9101989df119d1db87a70aada1abdd50", func := "rialto/rialtolaw10.HashPlays", spec := "hashPlays", inPlace := ["math.Float64bits", "internal/bytealg.abigen_runtime_cmpstring", "slices.overlaps[int64]"], unfollowed := true, recurses := true, apart := false }
def HashPlaysSaid : Prop := hashPlaysRow.holds Try.pinned (OpenSpec.ofChange hashPlaysSpec)

/-- ITS FALSE NEIGHBOUR: 'it returns false'. Refute it at one input. -/
def hashPlaysWrong : ChangeSpec := { name := "hashPlays", fn := fun _ => fun
  | [d1, d2] => { results := [.lit (.bool false)], args := [d1, d2] }
  | _ => none }
def HashPlaysWrongFalsely : Prop := hashPlaysRow.holds Try.pinned (OpenSpec.ofChange hashPlaysWrong)

/- THE SECOND FORM. 'bulk': how many values and letters a reading holds, each counted each time it is reached (what is shared counts as often as it is met; a slice's spare places count too). A statement '..UptoSaid' is the law's where the arguments, and the package variables that the reading takes, are together of bulk at most 1048576: NARROWER than '..Said'. Prove '..Said' where nothing that the law and all that it calls make is longer than what came in: it says more and counts as full. Else prove '..UptoSaid'. A law counts once. -/
mutual
def uptoBulk {H : Type} : DataW H → Nat
  | .lit (.string bytes) => bytes.length + 1
  | .lit _ => 1
  | .nil => 1
  | .ptr d => uptoBulk d + 1
  | .slice elems spare => uptoBulkAll elems + uptoBulkAll spare + 1
  | .agg parts => uptoBulkAll parts + 1
  | .iface _ d => uptoBulk d + 1
  | .map entries => uptoBulkEntries entries + 1
  | .held _ => 1
def uptoBulkAll {H : Type} : List (DataW H) → Nat
  | [] => 0
  | d :: r => uptoBulk d + uptoBulkAll r
def uptoBulkEntries {H : Type} : List (Lit × DataW H) → Nat
  | [] => 0
  | x :: r => uptoBulkEntry x + uptoBulkEntries r
def uptoBulkEntry {H : Type} : Lit × DataW H → Nat
  | (.string bytes, d) => bytes.length + uptoBulk d + 1
  | (_, d) => uptoBulk d + 1
 end
def uptoSmall : (H : Type) → List (DataW H) → Bool := fun _ ds => decide (uptoBulkAll ds ≤ 1048576)
def OpenSpec.upto (s : _root_.Go.ChangeSpec) : _root_.Go.OpenSpec := { _root_.Go.OpenSpec.ofChange s with cond := some uptoSmall }

/-- 'rialtolaw10.HashFloats', WHERE WHAT IT READS IS OF BULK AT MOST 1048576: true; the input reads as it did. -/
def hashFloatsUptoRow : OpenClaim := { program := "ytijegkiapbmekaa", sum := "8b7b17a947723de6ed3fd374dc06906e9101989df119d1db87a70aada1abdd50", func := "rialto/rialtolaw10.HashFloats", spec := "hashFloats", inPlace := ["math.Float64bits", "internal/bytealg.abigen_runtime_cmpstring", "slices.overlaps[int64]", "math.Float64frombits"], unfollowed := true, recurses := true, apart := false, narrowed := true }
def HashFloatsUptoSaid : Prop := hashFloatsUptoRow.holds Try.pinned (OpenSpec.upto hashFloatsSpec)

/-- 'rialtolaw10.HashRows', WHERE WHAT IT READS IS OF BULK AT MOST 1048576: true; the input reads as it did. -/
def hashRowsUptoRow : OpenClaim := { program := "ytijegkiapbmekaa", sum := "8b7b17a947723de6ed3fd374dc06906e9101989df119d1db87a70aada1abdd50", func := "rialto/rialtolaw10.HashRows", spec := "hashRows", inPlace := ["math.Float64bits", "internal/bytealg.abigen_runtime_cmpstring", "slices.overlaps[int64]"], unfollowed := true, recurses := true, apart := false, narrowed := true }
def HashRowsUptoSaid : Prop := hashRowsUptoRow.holds Try.pinned (OpenSpec.upto hashRowsSpec)

/-- 'rialtolaw10.HashChains', WHERE WHAT IT READS IS OF BULK AT MOST 1048576: true; the input reads as it did. -/
def hashChainsUptoRow : OpenClaim := { program := "ytijegkiapbmekaa", sum := "8b7b17a947723de6ed3fd374dc06906e9101989df119d1db87a70aada1abdd50", func := "rialto/rialtolaw10.HashChains", spec := "hashChains", inPlace := ["math.Float64bits", "internal/bytealg.abigen_runtime_cmpstring", "slices.overlaps[int64]"], unfollowed := true, recurses := true, apart := false, narrowed := true }
def HashChainsUptoSaid : Prop := hashChainsUptoRow.holds Try.pinned (OpenSpec.upto hashChainsSpec)

/-- 'rialtolaw10.HashPlays', WHERE WHAT IT READS IS OF BULK AT MOST 1048576: true; the input reads as it did. -/
def hashPlaysUptoRow : OpenClaim := { program := "ytijegkiapbmekaa", sum := "8b7b17a947723de6ed3fd374dc06906e9101989df119d1db87a70aada1abdd50", func := "rialto/rialtolaw10.HashPlays", spec := "hashPlays", inPlace := ["math.Float64bits", "internal/bytealg.abigen_runtime_cmpstring", "slices.overlaps[int64]"], unfollowed := true, recurses := true, apart := false, narrowed := true }
def HashPlaysUptoSaid : Prop := hashPlaysUptoRow.holds Try.pinned (OpenSpec.upto hashPlaysSpec)

end Rows
end Go.Proofs.Ytijegkiapbmekaa
