/- The document's examples of layer 8; Sort. -/
import Derived.Test.YtilpgojkbgbinaaLst1
import Derived.Test.YtilpgojkbgbinaaLst2
import Derived.Test.YtilpgojkbgbinaaLst3
import Derived.Test.YtilpgojkbgbinaaFree
import Derived.Test.YtilpgojkbgbinaaInsert
set_option maxRecDepth 100000
set_option linter.unusedVariables false
set_option linter.unusedSimpArgs false
namespace Go.Proofs.Ytilpgojkbgbinaa
open Go.RowKit
attribute [local go_sem] run_frombits run_tobits more_more more_drew more_drewN more_size more_cell more_frozen run_store_float lt_c1 le_c1 lt_s1 le_s1 lt_c2 le_c2 lt_s2 le_s2 lt_c3 le_c3 lt_s3 le_s3 lt_c4 le_c4 lt_s4 le_s4 lt_c5 le_c5 lt_s5 le_s5 lt_c6 le_c6 lt_s6 le_s6 lt_c7 le_c7 lt_s7 le_s7 lt_c8 le_c8 lt_s8 le_s8 lt_c9 le_c9 lt_s9 le_s9 lt_c10 le_c10 lt_s10 le_s10 lt_c11 le_c11 lt_s11 le_s11 lt_c12 le_c12 lt_s12 le_s12 le_c0
theorem rowIn_blk {α : Type} {c : α → List Value} {s : Nat} {w : World} {g : Nat} {cs : Array Value} {t : TypeId} {l : List α} (hc : ∀ a, (c a).length = s) (h : Blk w g cs t) (e : cs.toList = rowC c l) : RowIn c s w (some ⟨g, 0, none⟩) l := fun j hj => by
  refine ⟨g, 0, rfl, h.lt, fun i hi k u hu => ?_⟩
  have hk : k < s := by
    rcases Nat.lt_or_ge k s with q | q
    · exact q
    · rw [List.getElem?_eq_none (by rw [hc]; exact q)] at hu; cases hu
  rw [Nat.zero_add, h.cell, ← Array.getElem?_toList, e, rowC_get hc l i k hi hk, hu]
theorem tells_known : Tells (fun n : Int => .int .i64 n) ltI 87 #[] [] := by
  refine ⟨enters Try.func87 (by kernel_rfl) rfl, fun W x y _ => ?_⟩
  show Gives _ _ #[.int .i64 x, .int .i64 y] W _
  go_enter Try.func87, Try.ntmps87
  go_wp2
  go_ret
  exact ⟨rfl, (more_of_below (by repeat (first | (with_reducible exact Below.refl _ _) | (with_reducible refine Below.drew ?_) | (with_reducible refine Below.alloc ?_ (by simp [more_size]; try omega) _) | (with_reducible refine Below.setCell ?_ (by simp [more_size]; try omega) _) | (with_reducible refine below_more ?_ _ (by simp [more_size]; try omega)))))⟩
abbrev S8 : List (It Int) := [⟨1, 0, 1⟩, ⟨2, 0, 2⟩] ++ [⟨3, 0, 0⟩]
theorem S8_perm : S8.Perm (itsF 0 [3, 1, 2]) := List.perm_append_comm
theorem S8_sorted : Sorted (ltS ltI) S8 := by
  unfold S8 Sorted
  simp [ltS_iff, ltI]
set_option maxHeartbeats 2000000 in
theorem known8 (w : World) : Gives Try.prog 39 #[] w (.bool true) := by
  have L := Lib.hid (fun W ha => least_It1 ltI_swo tells_known (some ⟨w.heap.size, 0, none⟩) 3 [3, 1, 2] 2 W (by decide) ha S8 S8_perm S8_sorted)
  go_enter Try.func39, Try.ntmps39
  go_wp2_with fail
  refine (L.out _ (rowIn_blk intC_len (Blk.new _ _ _ rfl) rfl)).mono ?_
  rintro e w1 ⟨v, rfl, own, bel⟩
  have B1 : Below w.heap.size w w1 := (Below.alloc (Below.refl _ _) (Nat.le_refl _) _).trans (bel.mono (by simp))
  obtain ⟨A1, cap1, rfl, q1, q2, q3, q4⟩ := own_open own
  obtain ⟨g, rfl, q5, q6, q7⟩ := q4 (by decide)
  have c0 := q7 0 (.int .i64 1) rfl
  have c1 := q7 1 (.int .i64 2) rfl
  have hg : w.heap.size ≤ g := by simp at q5; omega
  clear own q4 q7 bel L q3
  replace B1 := Lib.hid B1
  go_wp2_with fail
  refine (newfree_any _).mono ?_
  rintro e w2 ⟨rfl, hF2, hB2⟩
  generalize hp : w1.heap.size = p at *
  have P1 := Lib.hid (free_put w2 p none [] 4 (by simp) hF2)
  have d0 := (hB2.cell (p := ⟨g, 0, none⟩) (show g < p from q6)).trans c0
  have d1 := (hB2.cell (p := ⟨g, 1, none⟩) (show g < p from q6)).trans c1
  have hB2' := Lib.hid (B1.out.trans (hB2.mono (by rw [← hp]; exact B1.out.size)))
  have hs1 := Lib.hid B1.out.size
  have hpp : p ≤ w2.heap.size := hp ▸ hB2.size
  clear hF2 hB2 c0 c1 B1
  go_wp2_with fail
  refine P1.out.mono ?_
  rintro e w3 ⟨rfl, a3, hF3, f3, k3⟩
  have P2 := Lib.hid (free_put w3 p a3 [4] 2 (by simp) hF3)
  clear P1
  have hB3 := Lib.hid (hB2'.out.trans (k3.below (B := w.heap.size) (by have := hs1.out; omega) (by have := hs1.out; omega) (fun g h => by cases h)))
  have e0 := (World.cell?_of_block (w := w2) (w' := w3) (a := ⟨g, 0, none⟩) (k3.block g (show g < w2.heap.size by omega) (by omega) (by simp))).trans d0
  have e1 := (World.cell?_of_block (w := w2) (w' := w3) (a := ⟨g, 1, none⟩) (k3.block g (show g < w2.heap.size by omega) (by omega) (by simp))).trans d1
  have h3 : p ≤ w3.heap.size := by have := k3.size; omega
  have ha3 : ∀ x, a3 = some x → w2.heap.size ≤ x := by
    intro x hx
    rcases f3 with rfl | ⟨k, rfl, hk⟩
    · cases hx
    · injection hx with hx; omega
  clear hF3 f3 k3 d0 d1 hB2'
  go_wp2_with fail
  refine P2.out.mono ?_
  rintro e w4 ⟨rfl, a4, hF4, f4, k4⟩
  clear P2
  have T := Lib.hid (free_take w4 p a4 [2, 4] (by simp) hF4)
  have hB4 := Lib.hid (hB3.out.trans (k4.below (B := w.heap.size) (by have := hs1.out; omega) (by have := hs1.out; omega) (fun g h => by have := ha3 g h; have := hs1.out; omega)))
  have g0 := (World.cell?_of_block (w := w3) (w' := w4) (a := ⟨g, 0, none⟩) (k4.block g (show g < w3.heap.size by omega) (by omega) (fun h => by have := ha3 g h.symm; omega))).trans e0
  have g1 := (World.cell?_of_block (w := w3) (w' := w4) (a := ⟨g, 1, none⟩) (k4.block g (show g < w3.heap.size by omega) (by omega) (fun h => by have := ha3 g h.symm; omega))).trans e1
  have h4 : p ≤ w4.heap.size := by have := k4.size; omega
  have ha4 : ∀ x, a4 = some x → p ≤ x := by
    intro x hx
    rcases f4 with rfl | ⟨k, rfl, hk⟩
    · have := ha3 x hx; omega
    · injection hx with hx; omega
  clear hF4 f4 k4 e0 e1 hB3 ha3
  go_wp2_with fail
  refine T.out.mono ?_
  rintro e w5 ⟨k, rfl, hk, hle, hF5, k5⟩
  have hk2 : k = 2 := by
    have := hle 2 (by simp)
    simp at hk
    omega
  subst hk2
  have LN := Lib.hid (free_len w5 p a4 _ hF5)
  have hB5 := Lib.hid (hB4.out.trans (k5.below (B := w.heap.size) (by have := hs1.out; omega) (by have := hs1.out; omega) (fun g h => by have := ha4 g h; have := hs1.out; omega)))
  have i0 := (World.cell?_of_block (w := w4) (w' := w5) (a := ⟨g, 0, none⟩) (k5.block g (show g < w4.heap.size by omega) (by omega) (fun h => by have := ha4 g h.symm; omega))).trans g0
  have i1 := (World.cell?_of_block (w := w4) (w' := w5) (a := ⟨g, 1, none⟩) (k5.block g (show g < w4.heap.size by omega) (by omega) (fun h => by have := ha4 g h.symm; omega))).trans g1
  clear hF5 k5 g0 g1 hB4 ha4 T hk hle
  go_wp2_with fail
  refine LN.out.mono ?_; rintro e w' ⟨rfl, rfl⟩
  go_wp2
  go_ret
  exact ⟨rfl, more_of_below hB5.out⟩
theorem sort_It2 {lt : ByteArray → ByteArray → Bool} (hlt : Swo lt) {fid : FuncId} {caps : Array Value} (hT : Tells (fun n : ByteArray => .string n) lt fid caps []) (A : Option Addr) (cap : Nat) (l : List ByteArray) (w : World) (hl : l.length ≤ 100000) (ha : RowIn strC 1 w A l)
    (S : List (It ByteArray)) (hS : S.Perm (itsF 0 l)) (hSS : Sorted (ltS lt) S) :
    Calls Try.prog 50 #[.slice A l.length cap, .func (.func fid) #[] caps] w fun e w' => ∃ v, e = .returned v ∧ w'.ownsRow w.heap.size 9 1 v l.length (rowC strC (S.map (·.v))) ∧ Below w.heap.size w w' := by
  have L := Lib.hid (least_It2 hlt hT A cap l l.length w hl ha S hS hSS)
  have e1 : min (l.length : Int).toNat l.length = l.length := by omega
  have e2 : S.take (l.length : Int).toNat = S := List.take_of_length_le (by rw [hS.length_eq, itsF_length]; omega)
  go_enter Try.func50, Try.ntmps50
  go_wp2_with fail
  refine L.out.mono ?_; rintro e w1 ⟨v, rfl, own, bel⟩
  rw [e1, e2] at own
  replace own := Lib.hid own
  replace bel := Lib.hid bel
  go_wp2
  go_ret
  exact ⟨_, rfl, own.out, bel.out⟩
theorem sort_It3 {lt : Itm → Itm → Bool} (hlt : Swo lt) {fid : FuncId} {caps : Array Value} (hT : Tells valItm lt fid caps []) (A : Option Addr) (cap : Nat) (l : List Itm) (w : World) (hl : l.length ≤ 100000) (ha : RowIn cItm 2 w A l)
    (S : List (It Itm)) (hS : S.Perm (itsF 0 l)) (hSS : Sorted (ltS lt) S) :
    Calls Try.prog 47 #[.slice A l.length cap, .func (.func fid) #[] caps] w fun e w' => ∃ v, e = .returned v ∧ w'.ownsRow w.heap.size 80 2 v l.length (rowC cItm (S.map (·.v))) ∧ Below w.heap.size w w' := by
  have L := Lib.hid (least_It3 hlt hT A cap l l.length w hl ha S hS hSS)
  have e1 : min (l.length : Int).toNat l.length = l.length := by omega
  have e2 : S.take (l.length : Int).toNat = S := List.take_of_length_le (by rw [hS.length_eq, itsF_length]; omega)
  go_enter Try.func47, Try.ntmps47
  go_wp2_with fail
  refine L.out.mono ?_; rintro e w1 ⟨v, rfl, own, bel⟩
  rw [e1, e2] at own
  replace own := Lib.hid own
  replace bel := Lib.hid bel
  go_wp2
  go_ret
  exact ⟨_, rfl, own.out, bel.out⟩
end Go.Proofs.Ytilpgojkbgbinaa
