/- A pile of numbers: its methods. -/
import Derived.Test.YtijegkiapbmekaaPile
import Derived.RegionTactic
import Derived.BigRegion
import Derived.ChangeAlike
import Derived.Deep.AppendLies
import Derived.Deep.RegionHeld3
import Derived.Deep.RegionLaw
set_option maxRecDepth 100000
set_option linter.unusedVariables false
set_option linter.unusedSimpArgs false
namespace Go.Proofs.Ytijegkiapbmekaa
open Go.RowKit
attribute [local go_sem] run_frombits run_tobits more_more more_drew more_drewN more_size more_cell more_frozen run_store_float lt_c1 le_c1 lt_s1 le_s1 lt_c2 le_c2 lt_s2 le_s2 lt_c3 le_c3 lt_s3 le_s3 lt_c4 le_c4 lt_s4 le_s4 lt_c5 le_c5 lt_s5 le_s5 lt_c6 le_c6 lt_s6 le_s6 lt_c7 le_c7 lt_s7 le_s7 lt_c8 le_c8 lt_s8 le_s8 lt_c9 le_c9 lt_s9 le_s9 lt_c10 le_c10 lt_s10 le_s10 lt_c11 le_c11 lt_s11 le_s11 lt_c12 le_c12 lt_s12 le_s12 le_c0

def intC (n : Int) : List Value := [.int .i64 n]
theorem intC_len (n : Int) : (intC n).length = 1 := rfl
theorem intC_one (n : Int) : ∀ u ∈ intC n, u.oneCell' = true := by
  intro u hu; simp [intC] at hu; rcases hu with rfl; rfl
theorem info_int : (Try.prog.info? 3).map (fun i => (i.zero, i.size, i.bytes)) = some (some (.int .i64 0), 1, 8) := by kernel_rfl
abbrev PI (pT : TypeId) (fv : Value) (p : Nat) (K : List (Nat × Obj)) := @PileS Int intC 1 3 pT fv p K
theorem int_cell (l : List Int) (i : Nat) (hi : i < l.length) : (rowC intC l)[i]? = some (.int .i64 l[i]) := by
  have := rowC_get intC_len l i 0 hi (by omega); rw [Nat.mul_one, Nat.add_zero] at this; rw [this]; rfl
theorem run_ta_int (xT : TypeId) (v : Value) (w : World) : (Instr.typeAssert (.iface 3 v) xT 3 false).run Try.prog w = .ok v w := by
  simp [Instr.typeAssert, run_underlying Try.underlying3]
attribute [local go_sem] run_ta_int
section
variable {pT : TypeId} {fid : FuncId} {caps : Array Value} {lt : Int → Int → Bool} {p : Nat} {K : List (Nat × Obj)}
/-- the order of a pile's elements, as a function value tells it -/
def Tells {α : Type} (val : α → Value) (lt : α → α → Bool) (fid : FuncId) (caps : Array Value) (K : List (Nat × Obj)) : Prop :=
  (∀ (args : Array Value) (w : World), (callFunc fid args).run Try.prog w = .ok (.enter fid args) w) ∧ ∀ W x y, Holding K W → Gives Try.prog fid (#[val x, val y] ++ caps) W (.bool (lt x y))
end
end Go.Proofs.Ytijegkiapbmekaa
