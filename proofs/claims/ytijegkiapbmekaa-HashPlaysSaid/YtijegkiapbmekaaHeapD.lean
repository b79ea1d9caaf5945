/- container/heap: Init, Push, Pop, over whatever pile. -/
import Derived.Test.YtijegkiapbmekaaHeapC
set_option maxRecDepth 100000
set_option linter.unusedVariables false
set_option linter.unusedSimpArgs false
namespace Go.Proofs.Ytijegkiapbmekaa
open Go.RowKit
attribute [local go_sem] run_frombits run_tobits more_more more_drew more_drewN more_size more_cell more_frozen run_store_float lt_c1 le_c1 lt_s1 le_s1 lt_c2 le_c2 lt_s2 le_s2 lt_c3 le_c3 lt_s3 le_s3 lt_c4 le_c4 lt_s4 le_s4 lt_c5 le_c5 lt_s5 le_s5 lt_c6 le_c6 lt_s6 le_s6 lt_c7 le_c7 lt_s7 le_s7 lt_c8 le_c8 lt_s8 le_s8 lt_c9 le_c9 lt_s9 le_s9 lt_c10 le_c10 lt_s10 le_s10 lt_c11 le_c11 lt_s11 le_s11 lt_c12 le_c12 lt_s12 le_s12 le_c0

section
variable {α : Type} {lt : α → α → Bool} {d : α} {T : TypeId} {hp : Value} {fLen fLess fSwap fPush fPop : FuncId} {p : Nat} {iv : α → Value} {S : World → Option Nat → List α → Prop}
end
end Go.Proofs.Ytijegkiapbmekaa
