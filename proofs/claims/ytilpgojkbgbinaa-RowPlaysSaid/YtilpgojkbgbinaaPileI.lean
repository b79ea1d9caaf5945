/- A pile of numbers: its methods. -/
import Derived.Test.YtilpgojkbgbinaaPile
import Derived.RegionTactic
import Derived.BigRegion
import Derived.ChangeAlike
import Derived.Deep.AppendLies
import Derived.Deep.RegionHeld3
import Derived.Deep.RegionLaw
set_option maxRecDepth 100000
set_option linter.unusedVariables false
set_option linter.unusedSimpArgs false
namespace Go.Proofs.Ytilpgojkbgbinaa
open Go.RowKit
attribute [local go_sem] run_frombits run_tobits more_more more_drew more_drewN more_size more_cell more_frozen run_store_float lt_c1 le_c1 lt_s1 le_s1 lt_c2 le_c2 lt_s2 le_s2 lt_c3 le_c3 lt_s3 le_s3 lt_c4 le_c4 lt_s4 le_s4 lt_c5 le_c5 lt_s5 le_s5 lt_c6 le_c6 lt_s6 le_s6 lt_c7 le_c7 lt_s7 le_s7 lt_c8 le_c8 lt_s8 le_s8 lt_c9 le_c9 lt_s9 le_s9 lt_c10 le_c10 lt_s10 le_s10 lt_c11 le_c11 lt_s11 le_s11 lt_c12 le_c12 lt_s12 le_s12 le_c0

def intC (n : Int) : List Value := [.int .i64 n]
theorem intC_len (n : Int) : (intC n).length = 1 := rfl
theorem intC_one (n : Int) : ∀ u ∈ intC n, u.oneCell' = true := by
  intro u hu; simp [intC] at hu; rcases hu with rfl; rfl
theorem info_int : (Try.prog.info? 3).map (fun i => (i.zero, i.size, i.bytes)) = some (some (.int .i64 0), 1, 8) := by kernel_rfl
abbrev PI (pT : TypeId) (fv : Value) (p : Nat) (K : List (Nat × Obj)) := @PileS Int intC 1 3 pT fv p K
theorem int_cell (l : List Int) (i : Nat) (hi : i < l.length) : (rowC intC l)[i]? = some (.int .i64 l[i]) := by
  have := rowC_get intC_len l i 0 hi (by omega); rw [Nat.mul_one, Nat.add_zero] at this; rw [this]; rfl
theorem run_ta_int (xT : TypeId) (v : Value) (w : World) : (Instr.typeAssert (.iface 3 v) xT 3 false).run Try.prog w = .ok v w := by
  simp [Instr.typeAssert, run_underlying Try.underlying3]
attribute [local go_sem] run_ta_int
section
variable {pT : TypeId} {fid : FuncId} {caps : Array Value} {lt : Int → Int → Bool} {p : Nat} {K : List (Nat × Obj)}
set_option maxHeartbeats 1000000 in
theorem pi_len (fv : Value) (w : World) (a : Option Nat) (l : List Int) (h : PI pT fv p K w a l) :
    Calls Try.prog 91 #[.pointer (some ⟨p, 0, none⟩)] w fun e w' => e = .returned (.int .i64 l.length) ∧ w = w' := by
  obtain ⟨h1, h2, ⟨v, h3, h4, h5⟩, h6⟩ := h
  obtain ⟨A, cap, rfl, _, _, _, _⟩ := own_open h5
  have c0 : w.cell? ⟨p, 0, none⟩ = some (.slice A l.length cap) := h3.cell 0
  clear h3 h4 h5 h6
  go_enter Try.func91, Try.ntmps91
  go_wp2
  go_ret
  exact ⟨rfl, rfl⟩
set_option maxHeartbeats 1000000 in
theorem pi_swap (fv : Value) (w : World) (a : Option Nat) (l : List Int) (i j : Nat) (hi : i < l.length) (hj : j < l.length) (h : PI pT fv p K w a l) :
    Calls Try.prog 176 #[.pointer (some ⟨p, 0, none⟩), .int .i64 i, .int .i64 j] w fun e w' => e = .returned (.tuple #[]) ∧ PI pT fv p K w' a (swp l i j) ∧ Keeps p a w w' := by
  have H := h
  obtain ⟨h1, h2, ⟨v, h3, h4, h5⟩, h6⟩ := h
  obtain ⟨A, cap, rfl, q1, q2, q3, q4⟩ := own_open h5
  obtain ⟨g, rfl, q5, q6, q7⟩ := q4 (by omega)
  have c0 : w.cell? ⟨p, 0, none⟩ = some (.slice (some ⟨g, 0, none⟩) l.length cap) := h3.cell 0
  have hi' : (i : Int) < (l.length : Int) := by omega
  have hj' : (j : Int) < (l.length : Int) := by omega
  have gi := q7 i _ (int_cell l i hi)
  have gj := q7 j _ (int_cell l j hj)
  have fi := own_free h5 (g := g) rfl i
  have fj := own_free h5 (g := g) rfl j
  have ha : a = some g := h4.symm
  have fin := Lib.hid (PileS.puts (l' := swp l i j) H ha [(i, .int .i64 l[j]), (j, .int .i64 l[i])] (fun k u hm => by simp at hm; rcases hm with ⟨rfl, _⟩ | ⟨rfl, _⟩ <;> omega) (swp_length _ _ _) (row_ext intC_len (by decide) (by simp [setsL, rowC_length intC_len, swp_length]) (fun k hk t ht => by
    obtain rfl : t = 0 := by omega
    have hk' : k < l.length := by rw [swp_length] at hk; exact hk
    rw [swp_at l i j k hi hj hk, Nat.mul_one, Nat.add_zero]
    simp only [setsL, List.getElem?_set, rowC_length intC_len, List.length_set, Nat.mul_one]
    by_cases e1 : k = j
    · subst e1; rw [if_pos rfl, if_pos hj, if_pos rfl]; rfl
    · rw [if_neg (Ne.symm e1), if_neg e1]
      by_cases e2 : k = i
      · subst e2; rw [if_pos rfl, if_pos hi, if_pos rfl]; rfl
      · rw [if_neg (Ne.symm e2), if_neg e2, int_cell l k hk']; rfl)))
  generalize l[i] = x at *
  generalize l[j] = y at *
  obtain ⟨u, hu⟩ := cell_set_some (q := ⟨g, i, none⟩) (x := .int .i64 y) gj
  clear q4 q7 q3 h1 h2 h3 h4 h5 h6 H ha
  go_enter Try.func176, Try.ntmps176
  go_region
  go_end0
  exact ⟨rfl, fin.out.1.drew, fin.out.2.drew⟩
/-- the order of a pile's elements, as a function value tells it -/
def Tells {α : Type} (val : α → Value) (lt : α → α → Bool) (fid : FuncId) (caps : Array Value) (K : List (Nat × Obj)) : Prop :=
  (∀ (args : Array Value) (w : World), (callFunc fid args).run Try.prog w = .ok (.enter fid args) w) ∧ ∀ W x y, Holding K W → Gives Try.prog fid (#[val x, val y] ++ caps) W (.bool (lt x y))
set_option maxHeartbeats 1000000 in
theorem pi_less (hT : Tells (fun n : Int => .int .i64 n) lt fid caps K) (w : World) (a : Option Nat) (l : List Int) (i j : Nat) (hi : i < l.length) (hj : j < l.length) (h : PI pT (.func (.func fid) #[] caps) p K w a l) :
    Gives Try.prog 173 #[.pointer (some ⟨p, 0, none⟩), .int .i64 i, .int .i64 j] w (.bool (lt (nth 0 l i) (nth 0 l j))) := by
  have HK := h.holding
  obtain ⟨h1, h2, ⟨v, h3, h4, h5⟩, h6⟩ := h
  obtain ⟨A, cap, rfl, q1, q2, q3, q4⟩ := own_open h5
  obtain ⟨g, rfl, q5, q6, q7⟩ := q4 (by omega)
  have c0 := fun y => (h3.more y).cell 0
  have c1 := fun y => (h3.more y).cell 1
  have hi' : (i : Int) < (l.length : Int) := by omega
  have hj' : (j : Int) < (l.length : Int) := by omega
  have gi := fun y => (more_cell w y _ q6).trans (q7 i _ (int_cell l i hi))
  have gj := fun y => (more_cell w y _ q6).trans (q7 j _ (int_cell l j hj))
  rw [nth_get 0 l i hi, nth_get 0 l j hj]
  have CM := Lib.hid (fun y => hT.2 (more w y) l[i] l[j] (HK.more y))
  have E := hT.1
  generalize l[i] = x at *
  generalize l[j] = y at *
  generalize lt x y = r at *
  clear q4 q7 q3 h1 h2 h3 h4 h5 h6 HK hT
  go_enter Try.func173, Try.ntmps173
  go_wp2_with fail
  refine wp_region_more (by kernel_rfl) (by kernel_rfl) ?_
  repeat (go_big_quiet_step (((with_reducible exact (CM.out _).at_))))
  refine wpQuiet_nil ?_
  rintro _ ⟨y, rfl⟩
  go_wp2
  go_ret
  exact ⟨rfl, _, rfl⟩
set_option maxHeartbeats 1000000 in
theorem pi_push (fv : Value) (w : World) (a : Option Nat) (l : List Int) (x : Int) (hl : l.length + 1 ≤ 1000000) (h : PI pT fv p K w a l) :
    Calls Try.prog 175 #[.pointer (some ⟨p, 0, none⟩), .iface 3 (.int .i64 x)] w fun e w' => e = .returned (.tuple #[]) ∧ ∃ a', PI pT fv p K w' a' (l ++ [x]) ∧ Fresh w a a' ∧ Keeps p a w w' := by
  obtain ⟨i0, hi0, hi1, hi2, hi3⟩ := info_parts info_int
  have H := h
  obtain ⟨h1, h2, ⟨v, h3, h4, h5⟩, h6⟩ := h
  have fin := Lib.hid (fun (w1 : World) (g cap : Nat) (grow : (w.alloc (.cells #[.int .i64 x] 3)).drew.grownBy w1 v.ownBlock) (hat : v.ownBlock = some g ∨ g = w.heap.size + 1) own => H.pushed (W0 := (w.alloc (.cells #[.int .i64 x] 3)).drew) (g := g) (cap := cap) (x := x) hl (by repeat (first | (with_reducible exact Below.refl _ _) | (with_reducible refine Below.drew ?_) | (with_reducible refine Below.alloc ?_ (by simp [more_size]; try omega) _) | (with_reducible refine Below.setCell ?_ (by simp [more_size]; try omega) _) | (with_reducible refine below_more ?_ _ (by simp [more_size]; try omega)))) (h4 ▸ grow) (by rw [← h4]; rcases hat with e | e; exact .inl e; exact .inr (by omega)) own)
  have c0 : w.drew.cell? ⟨p, 0, none⟩ = some v := h3.cell 0
  have f0 : w.drew.frozen? ⟨p, 0, none⟩ = false := h3.free 0
  have hp := h3.lt
  have H5 := Lib.hid h5
  have KA := Lib.hid (fun w' (h : Below w.heap.size w w') => show w'.cell? ⟨p, 0, none⟩ = some v ∧ w'.frozen? ⟨p, 0, none⟩ = false from ⟨(h.cell (p := ⟨p, 0, none⟩) hp).trans c0, (h.frozen (p := ⟨p, 0, none⟩) hp).trans f0⟩)
  have hap : ∀ w1, (w.alloc (.cells #[.int .i64 x] 3)).drew.grownBy w1 v.ownBlock → w1.cell? ⟨p, 0, none⟩ = some v ∧ w1.frozen? ⟨p, 0, none⟩ = false := fun w1 hg => by
    have e := hg.block p (by simp; omega) (by rw [h4]; exact Ne.symm h2)
    have e2 : w1.heap[p]? = w.heap[p]? := e.trans (Below.heap_alloc w _ p hp)
    exact ⟨(World.cell?_of_block (w := w) (a := ⟨p, 0, none⟩) e2).trans c0, (World.frozen?_of_block (w := w) (a := ⟨p, 0, none⟩) e2).trans f0⟩
  have KB := Lib.hid hap
  have c0w : w.cell? ⟨p, 0, none⟩ = some v := h3.cell 0
  clear h5 c0 f0 hap
  go_enter Try.func175, Try.ntmps175
  go_wp2_with fail
  go_region_law ((refine step_append_lies _ (by rfl) _ _ 68 (by rfl) 0 3 i0 (.int .i64 0) 1 8 Try.underlying68 hi0 hi1 hi2 hi3 (by rfl) (by decide) v l.length (rowC intC l) (by rfl) (own_below H5.out (by repeat (first | exact Below.refl _ _ | with_reducible refine Below.alloc ?_ (by simp) _ | with_reducible refine Below.drew ?_))) ⟨w.heap.size, 0, none⟩ 1 1 [.int .i64 x] (by rfl) (by rfl) (World.news_of_block (cs := #[.int .i64 x]) (t := 3) (fr := (0, 0)) (heap_alloc_new w _)) (intC_one x) (by decide) (by unfold maxLen; omega) (by omega) (Nat.zero_le _) (w.heap.size + 1) (by simp) ?_; intro g cap w1 own1 grow1 hat hlt; obtain ⟨d0, e0⟩ := KB.out w1 grow1))
  all_goals
    go_end0
    exact ⟨rfl, fin.out w1 g cap grow1 hat own1⟩
set_option maxHeartbeats 1000000 in
theorem pi_pop (fv : Value) (w : World) (a : Option Nat) (l : List Int) (x : Int) (h : PI pT fv p K w a (l ++ [x])) :
    Calls Try.prog 174 #[.pointer (some ⟨p, 0, none⟩)] w fun e w' => e = .returned (.iface 3 (.int .i64 x)) ∧ PI pT fv p K w' a l ∧ Keeps p a w w' := by
  have H := h
  obtain ⟨h1, h2, ⟨v, h3, h4, h5⟩, h6⟩ := h
  obtain ⟨A, cap, rfl, q1, q2, q3, q4⟩ := own_open h5
  obtain ⟨g, rfl, q5, q6, q7⟩ := q4 (by simp)
  have fin := Lib.hid (H.popped intC_len h3 h4 (by decide))
  have gx := q7 l.length _ (by have := int_cell (l ++ [x]) l.length (by simp); rw [List.getElem_append_right (by simp)] at this; simpa using this)
  have hn : (l ++ [x]).length = l.length + 1 := by simp
  have c0 : w.cell? ⟨p, 0, none⟩ = some (.slice (some ⟨g, 0, none⟩) (l ++ [x]).length cap) := h3.cell 0
  have f0 := h3.free 0
  rw [hn] at c0 q1 h1
  have hlc : (l.length : Int) ≤ (cap : Int) := by omega
  clear q4 q7 q3 h2 h3 h4 h5 h6 H hn
  go_enter Try.func174, Try.ntmps174
  go_wp2_with fail
  go_ret
  exact ⟨rfl, fin.out.1, fin.out.2⟩
/-- the pile of numbers is a pile -/
theorem pile_int (hT : Tells (fun n : Int => .int .i64 n) lt fid caps K) :
    Pile lt 0 146 (.pointer (some ⟨p, 0, none⟩)) 91 173 176 175 174 p (fun n => .iface 3 (.int .i64 n)) (PI pT (.func (.func fid) #[] caps) p K) where
  mLen := fun w => by kernel_rfl
  mLess := fun w => by kernel_rfl
  mSwap := fun w => by kernel_rfl
  mPush := fun w => by kernel_rfl
  mPop := fun w => by kernel_rfl
  eLen := enters Try.func91 (by kernel_rfl) rfl
  eLess := enters Try.func173 (by kernel_rfl) rfl
  eSwap := enters Try.func176 (by kernel_rfl) rfl
  ePush := enters Try.func175 (by kernel_rfl) rfl
  ePop := enters Try.func174 (by kernel_rfl) rfl
  bound := fun w a l h => h.1
  more := fun w a l x h => h.more x
  len := fun w a l h => pi_len _ w a l h
  less := fun w a l i j hi hj h => pi_less hT w a l i j hi hj h
  swap := fun w a l i j hi hj h => pi_swap _ w a l i j hi hj h
  push := fun w a l x hl h => pi_push _ w a l x hl h
  pop := fun w a l x h => pi_pop _ w a l x h
end
end Go.Proofs.Ytilpgojkbgbinaa
