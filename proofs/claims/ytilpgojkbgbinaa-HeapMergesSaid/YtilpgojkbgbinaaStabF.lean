/- heaps.stable: the function value that it gives. -/
import Derived.Test.YtilpgojkbgbinaaStab1
import Derived.Test.YtilpgojkbgbinaaStab2
import Derived.Test.YtilpgojkbgbinaaStab3
set_option maxRecDepth 100000
set_option linter.unusedVariables false
set_option linter.unusedSimpArgs false
namespace Go.Proofs.Ytilpgojkbgbinaa
open Go.RowKit
attribute [local go_sem] run_frombits run_tobits more_more more_drew more_drewN more_size more_cell more_frozen run_store_float lt_c1 le_c1 lt_s1 le_s1 lt_c2 le_c2 lt_s2 le_s2 lt_c3 le_c3 lt_s3 le_s3 lt_c4 le_c4 lt_s4 le_s4 lt_c5 le_c5 lt_s5 le_s5 lt_c6 le_c6 lt_s6 le_s6 lt_c7 le_c7 lt_s7 le_s7 lt_c8 le_c8 lt_s8 le_s8 lt_c9 le_c9 lt_s9 le_s9 lt_c10 le_c10 lt_s10 le_s10 lt_c11 le_c11 lt_s11 le_s11 lt_c12 le_c12 lt_s12 le_s12 le_c0
theorem stable_It1 (fid : FuncId) (caps : Array Value) (w : World) :
    Calls Try.prog 108 #[.func (.func fid) #[] caps] w fun e w' => e = .returned (.func (.func 127) #[] #[.pointer (some ⟨w.heap.size, 0, none⟩)]) ∧ ∃ t, w' = w.alloc (.cells #[.func (.func fid) #[] caps] t) := by
  go_enter Try.func108, Try.ntmps108
  go_wp2
  go_ret
  exact ⟨rfl, _, rfl⟩
theorem stable_It2 (fid : FuncId) (caps : Array Value) (w : World) :
    Calls Try.prog 95 #[.func (.func fid) #[] caps] w fun e w' => e = .returned (.func (.func 115) #[] #[.pointer (some ⟨w.heap.size, 0, none⟩)]) ∧ ∃ t, w' = w.alloc (.cells #[.func (.func fid) #[] caps] t) := by
  go_enter Try.func95, Try.ntmps95
  go_wp2
  go_ret
  exact ⟨rfl, _, rfl⟩
theorem stable_It3 (fid : FuncId) (caps : Array Value) (w : World) :
    Calls Try.prog 92 #[.func (.func fid) #[] caps] w fun e w' => e = .returned (.func (.func 112) #[] #[.pointer (some ⟨w.heap.size, 0, none⟩)]) ∧ ∃ t, w' = w.alloc (.cells #[.func (.func fid) #[] caps] t) := by
  go_enter Try.func92, Try.ntmps92
  go_wp2
  go_ret
  exact ⟨rfl, _, rfl⟩
theorem tells_It1 {lt : Int → Int → Bool} {fid : FuncId} {caps : Array Value} (hT : Tells (fun n : Int => .int .i64 n) lt fid caps []) (b : Nat) (t : TypeId) :
    Tells valIt1 (ltS lt) 127 #[.pointer (some ⟨b, 0, none⟩)] [(b, .cells #[.func (.func fid) #[] caps] t (0, 0))] :=
  ⟨enters Try.func127 (by kernel_rfl) rfl, fun W x y hK => stab_It1 hT W x y (hK b _ (List.mem_cons_self ..))⟩
theorem tells_It2 {lt : ByteArray → ByteArray → Bool} {fid : FuncId} {caps : Array Value} (hT : Tells (fun n : ByteArray => .string n) lt fid caps []) (b : Nat) (t : TypeId) :
    Tells valIt2 (ltS lt) 115 #[.pointer (some ⟨b, 0, none⟩)] [(b, .cells #[.func (.func fid) #[] caps] t (0, 0))] :=
  ⟨enters Try.func115 (by kernel_rfl) rfl, fun W x y hK => stab_It2 hT W x y (hK b _ (List.mem_cons_self ..))⟩
theorem tells_It3 {lt : Itm → Itm → Bool} {fid : FuncId} {caps : Array Value} (hT : Tells valItm lt fid caps []) (b : Nat) (t : TypeId) :
    Tells valIt3 (ltS lt) 112 #[.pointer (some ⟨b, 0, none⟩)] [(b, .cells #[.func (.func fid) #[] caps] t (0, 0))] :=
  ⟨enters Try.func112 (by kernel_rfl) rfl, fun W x y hK => stab_It3 hT W x y (hK b _ (List.mem_cons_self ..))⟩
end Go.Proofs.Ytilpgojkbgbinaa
