/- A pile of items that hold a rialtolaw8.Item: its methods. -/
import Derived.Test.YtilpgojkbgbinaaPileW
import Derived.RegionTactic
import Derived.BigRegion
import Derived.ChangeAlike
import Derived.Deep.AppendLies
import Derived.Deep.RegionHeld3
import Derived.Deep.RegionLaw
set_option maxRecDepth 100000
set_option linter.unusedVariables false
set_option linter.unusedSimpArgs false
namespace Go.Proofs.Ytilpgojkbgbinaa
open Go.RowKit
attribute [local go_sem] run_frombits run_tobits more_more more_drew more_drewN more_size more_cell more_frozen run_store_float lt_c1 le_c1 lt_s1 le_s1 lt_c2 le_c2 lt_s2 le_s2 lt_c3 le_c3 lt_s3 le_s3 lt_c4 le_c4 lt_s4 le_s4 lt_c5 le_c5 lt_s5 le_s5 lt_c6 le_c6 lt_s6 le_s6 lt_c7 le_c7 lt_s7 le_s7 lt_c8 le_c8 lt_s8 le_s8 lt_c9 le_c9 lt_s9 le_s9 lt_c10 le_c10 lt_s10 le_s10 lt_c11 le_c11 lt_s11 le_s11 lt_c12 le_c12 lt_s12 le_s12 le_c0

/-- an Item of the statements -/
structure Itm where
  n : Int
  id : Int
def cIt3 (x : It Itm) : List Value := [.int .i64 x.v.n, .int .i64 x.v.id, .int .i64 x.li, .int .i64 x.at_]
abbrev valIt3 (x : It Itm) : Value := .agg #[.int .i64 x.v.n, .int .i64 x.v.id, .int .i64 x.li, .int .i64 x.at_]
theorem cIt3_len (x : It Itm) : (cIt3 x).length = 4 := rfl
theorem cIt3_one (x : It Itm) : ∀ u ∈ cIt3 x, u.oneCell' = true := by
  intro u hu; simp [cIt3] at hu; rcases hu with rfl | rfl | rfl | rfl <;> rfl
theorem info_It3 : (Try.prog.info? 155).map (fun i => (i.zero, i.size, i.bytes)) = some (some (.agg #[.int .i64 0, .int .i64 0, .int .i64 0, .int .i64 0]), 4, 32) := by kernel_rfl
abbrev PIt3 (pT : TypeId) (fv : Value) (p : Nat) (K : List (Nat × Obj)) := @PileS (It Itm) cIt3 4 155 pT fv p K
theorem cIt3_cell (l : List (It Itm)) (i t : Nat) (hi : i < l.length) (ht : t < 4) : (rowC cIt3 l)[i * 4 + t]? = (cIt3 l[i])[t]? := rowC_get cIt3_len l i t hi ht
theorem run_ta_It3 (xT : TypeId) (v : Value) (w : World) : (Instr.typeAssert (.iface 155 v) xT 155 false).run Try.prog w = .ok v w := by
  simp [Instr.typeAssert, run_underlying Try.underlying155]
attribute [local go_sem] run_ta_It3
section
variable {pT : TypeId} {fid : FuncId} {caps : Array Value} {lt : It Itm → It Itm → Bool} {p : Nat} {K : List (Nat × Obj)}
set_option maxHeartbeats 1000000 in
theorem PIt3_len' (fv : Value) (w : World) (a : Option Nat) (l : List (It Itm)) (h : PIt3 pT fv p K w a l) :
    Calls Try.prog 94 #[.pointer (some ⟨p, 0, none⟩)] w fun e w' => e = .returned (.int .i64 l.length) ∧ w = w' := by
  obtain ⟨h1, h2, ⟨v, h3, h4, h5⟩, h6⟩ := h
  obtain ⟨A, cap, rfl, _, _, _, _⟩ := own_open h5
  have c0 : w.cell? ⟨p, 0, none⟩ = some (.slice A l.length cap) := h3.cell 0
  clear h3 h4 h5 h6
  go_enter Try.func94, Try.ntmps94
  go_wp2
  go_ret
  exact ⟨rfl, rfl⟩
set_option maxHeartbeats 4000000 in
theorem PIt3_swap (fv : Value) (w : World) (a : Option Nat) (l : List (It Itm)) (i j : Nat) (hi : i < l.length) (hj : j < l.length) (h : PIt3 pT fv p K w a l) :
    Calls Try.prog 180 #[.pointer (some ⟨p, 0, none⟩), .int .i64 i, .int .i64 j] w fun e w' => e = .returned (.tuple #[]) ∧ PIt3 pT fv p K w' a (swp l i j) ∧ Keeps p a w w' := by
  have H := h
  obtain ⟨h1, h2, ⟨v, h3, h4, h5⟩, h6⟩ := h
  obtain ⟨A, cap, rfl, q1, q2, q3, q4⟩ := own_open h5
  obtain ⟨g, rfl, q5, q6, q7⟩ := q4 (by omega)
  have c0 : w.cell? ⟨p, 0, none⟩ = some (.slice (some ⟨g, 0, none⟩) l.length cap) := h3.cell 0
  have hi' : (i : Int) < (l.length : Int) := by omega
  have hj' : (j : Int) < (l.length : Int) := by omega
  have gi0 := q7 (i * 4) _ ((cIt3_cell l i 0 hi (by decide)).trans rfl)
  have gi1 := q7 (i * 4 + 1) _ ((cIt3_cell l i 1 hi (by decide)).trans rfl)
  have gi2 := q7 (i * 4 + 2) _ ((cIt3_cell l i 2 hi (by decide)).trans rfl)
  have gi3 := q7 (i * 4 + 3) _ ((cIt3_cell l i 3 hi (by decide)).trans rfl)
  have gj0 := q7 (j * 4) _ ((cIt3_cell l j 0 hj (by decide)).trans rfl)
  have gj1 := q7 (j * 4 + 1) _ ((cIt3_cell l j 1 hj (by decide)).trans rfl)
  have gj2 := q7 (j * 4 + 2) _ ((cIt3_cell l j 2 hj (by decide)).trans rfl)
  have gj3 := q7 (j * 4 + 3) _ ((cIt3_cell l j 3 hj (by decide)).trans rfl)
  have fi0 := own_free h5 (g := g) rfl (i * 4)
  have fi1 := own_free h5 (g := g) rfl (i * 4 + 1)
  have fi2 := own_free h5 (g := g) rfl (i * 4 + 2)
  have fi3 := own_free h5 (g := g) rfl (i * 4 + 3)
  have fj0 := own_free h5 (g := g) rfl (j * 4)
  have fj1 := own_free h5 (g := g) rfl (j * 4 + 1)
  have fj2 := own_free h5 (g := g) rfl (j * 4 + 2)
  have fj3 := own_free h5 (g := g) rfl (j * 4 + 3)
  have ha : a = some g := h4.symm
  have fin := Lib.hid (pile_swapd cIt3_len (by decide) H ha i j hi hj)
  generalize l[i] = x at *
  generalize l[j] = y at *
  obtain ⟨_, hu00⟩ := cell_set_some (q := ⟨g, i * 4, none⟩) (x := .int .i64 y.v.n) gj0
  obtain ⟨_, hu01⟩ := cell_set_some (q := ⟨g, i * 4 + 1, none⟩) (x := .int .i64 y.v.id) hu00
  obtain ⟨_, hu02⟩ := cell_set_some (q := ⟨g, i * 4 + 2, none⟩) (x := .int .i64 y.li) hu01
  obtain ⟨_, hu03⟩ := cell_set_some (q := ⟨g, i * 4 + 3, none⟩) (x := .int .i64 y.at_) hu02
  obtain ⟨_, hu10⟩ := cell_set_some (q := ⟨g, i * 4, none⟩) (x := .int .i64 y.v.n) gj1
  obtain ⟨_, hu11⟩ := cell_set_some (q := ⟨g, i * 4 + 1, none⟩) (x := .int .i64 y.v.id) hu10
  obtain ⟨_, hu12⟩ := cell_set_some (q := ⟨g, i * 4 + 2, none⟩) (x := .int .i64 y.li) hu11
  obtain ⟨_, hu13⟩ := cell_set_some (q := ⟨g, i * 4 + 3, none⟩) (x := .int .i64 y.at_) hu12
  obtain ⟨_, hu20⟩ := cell_set_some (q := ⟨g, i * 4, none⟩) (x := .int .i64 y.v.n) gj2
  obtain ⟨_, hu21⟩ := cell_set_some (q := ⟨g, i * 4 + 1, none⟩) (x := .int .i64 y.v.id) hu20
  obtain ⟨_, hu22⟩ := cell_set_some (q := ⟨g, i * 4 + 2, none⟩) (x := .int .i64 y.li) hu21
  obtain ⟨_, hu23⟩ := cell_set_some (q := ⟨g, i * 4 + 3, none⟩) (x := .int .i64 y.at_) hu22
  obtain ⟨_, hu30⟩ := cell_set_some (q := ⟨g, i * 4, none⟩) (x := .int .i64 y.v.n) gj3
  obtain ⟨_, hu31⟩ := cell_set_some (q := ⟨g, i * 4 + 1, none⟩) (x := .int .i64 y.v.id) hu30
  obtain ⟨_, hu32⟩ := cell_set_some (q := ⟨g, i * 4 + 2, none⟩) (x := .int .i64 y.li) hu31
  obtain ⟨_, hu33⟩ := cell_set_some (q := ⟨g, i * 4 + 3, none⟩) (x := .int .i64 y.at_) hu32
  clear q4 q7 q3 h1 h2 h3 h4 h5 h6 H ha
  go_enter Try.func180, Try.ntmps180
  go_region
  go_end0
  exact ⟨rfl, fin.out.1.drew, fin.out.2.drew⟩
set_option maxHeartbeats 2000000 in
theorem PIt3_less (hT : Tells valIt3 lt fid caps K) (w : World) (a : Option Nat) (l : List (It Itm)) (i j : Nat) (hi : i < l.length) (hj : j < l.length) (h : PIt3 pT (.func (.func fid) #[] caps) p K w a l) :
    Gives Try.prog 177 #[.pointer (some ⟨p, 0, none⟩), .int .i64 i, .int .i64 j] w (.bool (lt (nth ⟨⟨0, 0⟩, 0, 0⟩ l i) (nth ⟨⟨0, 0⟩, 0, 0⟩ l j))) := by
  have HK := h.holding
  obtain ⟨h1, h2, ⟨v, h3, h4, h5⟩, h6⟩ := h
  obtain ⟨A, cap, rfl, q1, q2, q3, q4⟩ := own_open h5
  obtain ⟨g, rfl, q5, q6, q7⟩ := q4 (by omega)
  have c0 := fun y => (h3.more y).cell 0
  have c1 := fun y => (h3.more y).cell 1
  have hi' : (i : Int) < (l.length : Int) := by omega
  have hj' : (j : Int) < (l.length : Int) := by omega
  have gi0 := fun y => (more_cell w y _ q6).trans (q7 (i * 4) _ ((cIt3_cell l i 0 hi (by decide)).trans rfl))
  have gi1 := fun y => (more_cell w y _ q6).trans (q7 (i * 4 + 1) _ ((cIt3_cell l i 1 hi (by decide)).trans rfl))
  have gi2 := fun y => (more_cell w y _ q6).trans (q7 (i * 4 + 2) _ ((cIt3_cell l i 2 hi (by decide)).trans rfl))
  have gi3 := fun y => (more_cell w y _ q6).trans (q7 (i * 4 + 3) _ ((cIt3_cell l i 3 hi (by decide)).trans rfl))
  have gj0 := fun y => (more_cell w y _ q6).trans (q7 (j * 4) _ ((cIt3_cell l j 0 hj (by decide)).trans rfl))
  have gj1 := fun y => (more_cell w y _ q6).trans (q7 (j * 4 + 1) _ ((cIt3_cell l j 1 hj (by decide)).trans rfl))
  have gj2 := fun y => (more_cell w y _ q6).trans (q7 (j * 4 + 2) _ ((cIt3_cell l j 2 hj (by decide)).trans rfl))
  have gj3 := fun y => (more_cell w y _ q6).trans (q7 (j * 4 + 3) _ ((cIt3_cell l j 3 hj (by decide)).trans rfl))
  rw [nth_get _ l i hi, nth_get _ l j hj]
  have CM := Lib.hid (fun y => hT.2 (more w y) l[i] l[j] (HK.more y))
  have E := hT.1
  generalize l[i] = x at *
  generalize l[j] = y at *
  generalize lt x y = r at *
  clear q4 q7 q3 h1 h2 h3 h4 h5 h6 HK hT
  go_enter Try.func177, Try.ntmps177
  go_wp2_with fail
  refine wp_region_more (by kernel_rfl) (by kernel_rfl) ?_
  repeat (go_big_quiet_step (((with_reducible exact (CM.out _).at_))))
  refine wpQuiet_nil ?_
  rintro _ ⟨y, rfl⟩
  go_wp2
  go_ret
  exact ⟨rfl, _, rfl⟩
set_option maxHeartbeats 4000000 in
theorem PIt3_push (fv : Value) (w : World) (a : Option Nat) (l : List (It Itm)) (x : It Itm) (hl : l.length + 1 ≤ 1000000) (h : PIt3 pT fv p K w a l) :
    Calls Try.prog 179 #[.pointer (some ⟨p, 0, none⟩), .iface 155 (valIt3 x)] w fun e w' => e = .returned (.tuple #[]) ∧ ∃ a', PIt3 pT fv p K w' a' (l ++ [x]) ∧ Fresh w a a' ∧ Keeps p a w w' := by
  obtain ⟨i0, hi0, hi1, hi2, hi3⟩ := info_parts info_It3
  have H := h
  obtain ⟨h1, h2, ⟨v, h3, h4, h5⟩, h6⟩ := h
  have fin := Lib.hid (fun (w1 : World) (g cap : Nat) (grow : (w.alloc (.cells #[.int .i64 x.v.n, .int .i64 x.v.id, .int .i64 x.li, .int .i64 x.at_] 155)).drew.grownBy w1 v.ownBlock) (hat : v.ownBlock = some g ∨ g = w.heap.size + 1) own => H.pushed (W0 := (w.alloc (.cells #[.int .i64 x.v.n, .int .i64 x.v.id, .int .i64 x.li, .int .i64 x.at_] 155)).drew) (g := g) (cap := cap) (x := x) hl (by repeat (first | (with_reducible exact Below.refl _ _) | (with_reducible refine Below.drew ?_) | (with_reducible refine Below.alloc ?_ (by simp [more_size]; try omega) _) | (with_reducible refine Below.setCell ?_ (by simp [more_size]; try omega) _) | (with_reducible refine below_more ?_ _ (by simp [more_size]; try omega)))) (h4 ▸ grow) (by rw [← h4]; rcases hat with e | e; exact .inl e; exact .inr (by omega)) own)
  have c0 : w.drew.cell? ⟨p, 0, none⟩ = some v := h3.cell 0
  have f0 : w.drew.frozen? ⟨p, 0, none⟩ = false := h3.free 0
  have hp := h3.lt
  have H5 := Lib.hid h5
  have KA := Lib.hid (fun w' (h : Below w.heap.size w w') => show w'.cell? ⟨p, 0, none⟩ = some v ∧ w'.frozen? ⟨p, 0, none⟩ = false from ⟨(h.cell (p := ⟨p, 0, none⟩) hp).trans c0, (h.frozen (p := ⟨p, 0, none⟩) hp).trans f0⟩)
  have hap : ∀ w1, (w.alloc (.cells #[.int .i64 x.v.n, .int .i64 x.v.id, .int .i64 x.li, .int .i64 x.at_] 155)).drew.grownBy w1 v.ownBlock → w1.cell? ⟨p, 0, none⟩ = some v ∧ w1.frozen? ⟨p, 0, none⟩ = false := fun w1 hg => by
    have e := hg.block p (by simp; omega) (by rw [h4]; exact Ne.symm h2)
    have e2 : w1.heap[p]? = w.heap[p]? := e.trans (Below.heap_alloc w _ p hp)
    exact ⟨(World.cell?_of_block (w := w) (a := ⟨p, 0, none⟩) e2).trans c0, (World.frozen?_of_block (w := w) (a := ⟨p, 0, none⟩) e2).trans f0⟩
  have KB := Lib.hid hap
  have c0w : w.cell? ⟨p, 0, none⟩ = some v := h3.cell 0
  clear h5 c0 f0 hap
  go_enter Try.func179, Try.ntmps179
  go_wp2_with fail
  go_region_law ((refine step_append_lies _ (by rfl) _ _ 151 (by rfl) 0 155 i0 (.agg #[.int .i64 0, .int .i64 0, .int .i64 0, .int .i64 0]) 4 32 Try.underlying151 hi0 hi1 hi2 hi3 (by rfl) (by decide) v l.length (rowC cIt3 l) (by rfl) (own_below H5.out (by repeat (first | exact Below.refl _ _ | with_reducible refine Below.alloc ?_ (by simp) _ | with_reducible refine Below.drew ?_))) ⟨w.heap.size, 0, none⟩ 1 1 [.int .i64 x.v.n, .int .i64 x.v.id, .int .i64 x.li, .int .i64 x.at_] (by rfl) (by rfl) (World.news_of_block (cs := #[.int .i64 x.v.n, .int .i64 x.v.id, .int .i64 x.li, .int .i64 x.at_]) (t := 155) (fr := (0, 0)) (heap_alloc_new w _)) (cIt3_one x) (by decide) (by unfold maxLen; omega) (by omega) (Nat.zero_le _) (w.heap.size + 1) (by simp) ?_; intro g cap w1 own1 grow1 hat hlt; obtain ⟨d0, e0⟩ := KB.out w1 grow1))
  all_goals
    go_end0
    exact ⟨rfl, fin.out w1 g cap grow1 hat own1⟩
set_option maxHeartbeats 2000000 in
theorem PIt3_pop (fv : Value) (w : World) (a : Option Nat) (l : List (It Itm)) (x : It Itm) (h : PIt3 pT fv p K w a (l ++ [x])) :
    Calls Try.prog 178 #[.pointer (some ⟨p, 0, none⟩)] w fun e w' => e = .returned (.iface 155 (valIt3 x)) ∧ PIt3 pT fv p K w' a l ∧ Keeps p a w w' := by
  have H := h
  obtain ⟨h1, h2, ⟨v, h3, h4, h5⟩, h6⟩ := h
  obtain ⟨A, cap, rfl, q1, q2, q3, q4⟩ := own_open h5
  obtain ⟨g, rfl, q5, q6, q7⟩ := q4 (by simp)
  have fin := Lib.hid (H.popped cIt3_len h3 h4 (by decide))
  have hp := h3.lt
  have gx0 := q7 (l.length * 4) _ ((cIt3_cell (l ++ [x]) l.length 0 (by simp) (by decide)).trans (by rw [List.getElem_append_right (by simp)]; simp; rfl))
  have gx1 := q7 (l.length * 4 + 1) _ ((cIt3_cell (l ++ [x]) l.length 1 (by simp) (by decide)).trans (by rw [List.getElem_append_right (by simp)]; simp; rfl))
  have gx2 := q7 (l.length * 4 + 2) _ ((cIt3_cell (l ++ [x]) l.length 2 (by simp) (by decide)).trans (by rw [List.getElem_append_right (by simp)]; simp; rfl))
  have gx3 := q7 (l.length * 4 + 3) _ ((cIt3_cell (l ++ [x]) l.length 3 (by simp) (by decide)).trans (by rw [List.getElem_append_right (by simp)]; simp; rfl))
  have hn : (l ++ [x]).length = l.length + 1 := by simp
  have c0 : w.cell? ⟨p, 0, none⟩ = some (.slice (some ⟨g, 0, none⟩) (l ++ [x]).length cap) := h3.cell 0
  have c1 : ∀ o, (w.alloc o).cell? ⟨p, 0, none⟩ = some (.slice (some ⟨g, 0, none⟩) (l ++ [x]).length cap) := fun o => (show Blk (w.alloc o) p _ pT from (alloc_is w o) ▸ h3.more ⟨#[o], w.drawn⟩).cell 0
  have f1 : ∀ o, (w.alloc o).frozen? ⟨p, 0, none⟩ = false := fun o => (show Blk (w.alloc o) p _ pT from (alloc_is w o) ▸ h3.more ⟨#[o], w.drawn⟩).free 0
  rw [hn] at c0 q1 h1
  rw [hn] at c1
  have hlc : (l.length : Int) ≤ (cap : Int) := by omega
  clear q4 q7 q3 h2 h3 h4 h5 h6 H hn
  go_enter Try.func178, Try.ntmps178
  go_wp2_with fail
  go_ret
  exact ⟨rfl, fin.out.1.alloc _, fin.out.2.alloc _⟩
/-- the pile is a pile -/
theorem pile_It3 (hT : Tells valIt3 lt fid caps K) :
    Pile lt ⟨⟨0, 0⟩, 0, 0⟩ 148 (.pointer (some ⟨p, 0, none⟩)) 94 177 180 179 178 p (fun n => .iface 155 (valIt3 n)) (PIt3 pT (.func (.func fid) #[] caps) p K) where
  mLen := fun w => by kernel_rfl
  mLess := fun w => by kernel_rfl
  mSwap := fun w => by kernel_rfl
  mPush := fun w => by kernel_rfl
  mPop := fun w => by kernel_rfl
  eLen := enters Try.func94 (by kernel_rfl) rfl
  eLess := enters Try.func177 (by kernel_rfl) rfl
  eSwap := enters Try.func180 (by kernel_rfl) rfl
  ePush := enters Try.func179 (by kernel_rfl) rfl
  ePop := enters Try.func178 (by kernel_rfl) rfl
  bound := fun w a l h => h.1
  more := fun w a l x h => h.more x
  len := fun w a l h => PIt3_len' _ w a l h
  less := fun w a l i j hi hj h => PIt3_less hT w a l i j hi hj h
  swap := fun w a l i j hi hj h => PIt3_swap _ w a l i j hi hj h
  push := fun w a l x hl h => PIt3_push _ w a l x hl h
  pop := fun w a l x h => PIt3_pop _ w a l x h
end
end Go.Proofs.Ytilpgojkbgbinaa
