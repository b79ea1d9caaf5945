/- Package schema: definitions. -/
import Derived.Test.YtilpgojkbgbinaaKnown5
set_option linter.unusedVariables false
set_option linter.unusedSimpArgs false
namespace Go.Proofs.Ytilpgojkbgbinaa
open Go.RowKit
attribute [local go_sem] run_frombits run_tobits more_more more_drew more_drewN more_size more_cell more_frozen run_store_float lt_c1 le_c1 lt_s1 le_s1 lt_c2 le_c2 lt_s2 le_s2 lt_c3 le_c3 lt_s3 le_s3 lt_c4 le_c4 lt_s4 le_s4 lt_c5 le_c5 lt_s5 le_s5 lt_c6 le_c6 lt_s6 le_s6 lt_c7 le_c7 lt_s7 le_s7 lt_c8 le_c8 lt_s8 le_s8 lt_c9 le_c9 lt_s9 le_s9 lt_c10 le_c10 lt_s10 le_s10 lt_c11 le_c11 lt_s11 le_s11 lt_c12 le_c12 lt_s12 le_s12 le_c0

set_option maxRecDepth 100000 in
theorem run_fn0 (w : World) : (binOp .neq 132 .nilFunc .nilFunc).run Try.prog w = .ok (.bool false) w := by first | rfl | kernel_rfl
set_option maxRecDepth 100000 in
theorem run_fn1 (w : World) (f : Fn) (x y : Array Value) : (binOp .neq 132 (.func f x y) .nilFunc).run Try.prog w = .ok (.bool true) w := by first | rfl | kernel_rfl
set_option maxRecDepth 100000 in
theorem run_fn2 (w : World) : (binOp .neq 134 .nilFunc .nilFunc).run Try.prog w = .ok (.bool false) w := by first | rfl | kernel_rfl
set_option maxRecDepth 100000 in
theorem run_fn3 (w : World) (f : Fn) (x y : Array Value) : (binOp .neq 134 (.func f x y) .nilFunc).run Try.prog w = .ok (.bool true) w := by first | rfl | kernel_rfl
attribute [local go_sem] run_fn0 run_fn1 run_fn2 run_fn3
/-- a row of hooks: which are there -/
def HookIs (v : Value) (b : Bool) : Prop := (b = false ∧ v = .nilFunc) ∨ (b = true ∧ ∃ f x y, v = .func f x y)
def HooksIn (w : World) (A : Option Addr) (l : List Bool) : Prop :=
  ∀ j (h : j < l.length), ∃ b off, A = some ⟨b, off, none⟩ ∧ b < w.heap.size ∧ ∀ j (h : j < l.length), ∃ v, w.cell? ⟨b, off + j, none⟩ = some v ∧ HookIs v l[j]
theorem HooksIn.below {w w' : World} {A : Option Addr} {l : List Bool} (h : HooksIn w A l) (hb : Below w.heap.size w w') : HooksIn w' A l := fun j hj => by
  obtain ⟨b, off, e, hlt, hc⟩ := h j hj
  refine ⟨b, off, e, Nat.lt_of_lt_of_le hlt hb.size, fun i hi => ?_⟩
  obtain ⟨v, c, hv⟩ := hc i hi
  exact ⟨v, (hb.cell (p := ⟨b, _, none⟩) hlt).trans c, hv⟩
/-- one part of a key, beside fields so many and these hooks -/
def partB (n : Nat) (f h : Int) (ex : List Bool) : Bool :=
  if f = -1 then decide (0 ≤ h ∧ h < ex.length) && ex.getD h.toNat false
  else decide (0 ≤ f ∧ f < n) && h == 0

set_option maxRecDepth 100000 in
set_option maxHeartbeats 2000000 in
theorem part_any (A : Option Addr) (ca : Nat) (l : List Fld) (f h : Int) (B : Option Addr) (cb : Nat) (ex : List Bool) (C : Value) (w : World) (le : ex.length ≤ 9223372036854775807) (he : HooksIn w B ex) :
    Gives Try.prog 77 #[.slice A l.length ca, .agg #[.int .i64 f, .int .i64 h], .agg #[.slice B ex.length cb, C]] w (.bool (partB l.length f h ex)) := by
  by_cases hf : f = -1
  · subst hf
    rcases (show h < 0 ∨ (0 ≤ h ∧ ¬ h < (ex.length : Int)) ∨ (0 ≤ h ∧ h < (ex.length : Int)) by omega) with h1 | ⟨h1, h2⟩ | ⟨h1, h2⟩
    · have e : partB l.length (-1) h ex = false := by unfold partB; rw [if_pos rfl, decide_eq_false (by omega)]; rfl
      rw [e]
      clear he e
      go_enter Try.func77, Try.ntmps77
      go_wp2
      go_ret
      exact ⟨rfl, (more_of_below (by repeat (first | (with_reducible exact Below.refl _ _) | (with_reducible refine Below.drew ?_) | (with_reducible refine Below.alloc ?_ (by simp [more_size]; try omega) _) | (with_reducible refine Below.setCell ?_ (by simp [more_size]; try omega) _) | (with_reducible refine below_more ?_ _ (by simp [more_size]; try omega)))))⟩
    · have e : partB l.length (-1) h ex = false := by unfold partB; rw [if_pos rfl, decide_eq_false (by omega)]; rfl
      rw [e]
      clear he e
      go_enter Try.func77, Try.ntmps77
      go_wp2
      go_ret
      exact ⟨rfl, (more_of_below (by repeat (first | (with_reducible exact Below.refl _ _) | (with_reducible refine Below.drew ?_) | (with_reducible refine Below.alloc ?_ (by simp [more_size]; try omega) _) | (with_reducible refine Below.setCell ?_ (by simp [more_size]; try omega) _) | (with_reducible refine below_more ?_ _ (by simp [more_size]; try omega)))))⟩
    · obtain ⟨k, rfl⟩ := Int.eq_ofNat_of_zero_le h1
      have hk : k < ex.length := by omega
      have e : partB l.length (-1) (k : Int) ex = ex[k] := by
        unfold partB
        rw [if_pos rfl, decide_eq_true (by omega), Bool.true_and, Int.toNat_natCast, List.getD_eq_getElem?_getD, List.getElem?_eq_getElem hk]; rfl
      rw [e]
      clear e
      obtain ⟨b, off, rfl, hb, hc⟩ := he k hk
      obtain ⟨v, c, hv⟩ := hc k hk
      clear hc he
      replace c := fun y => (more_cell w y _ hb).trans c
      generalize ex[k] = bk at *
      rcases hv with ⟨rfl, rfl⟩ | ⟨rfl, fn, x, y, rfl⟩
      · have c0 : ∀ o o', ((w.alloc o).alloc o').cell? ⟨b, off + k, none⟩ = some .nilFunc := fun o o' => by rw [alloc_is, alloc_is, more_more]; exact c _
        go_enter Try.func77, Try.ntmps77
        go_wp2
        go_ret
        exact ⟨rfl, (more_of_below (by repeat (first | (with_reducible exact Below.refl _ _) | (with_reducible refine Below.drew ?_) | (with_reducible refine Below.alloc ?_ (by simp [more_size]; try omega) _) | (with_reducible refine Below.setCell ?_ (by simp [more_size]; try omega) _) | (with_reducible refine below_more ?_ _ (by simp [more_size]; try omega)))))⟩
      · have c0 : ∀ o o', ((w.alloc o).alloc o').cell? ⟨b, off + k, none⟩ = some (.func fn x y) := fun o o' => by rw [alloc_is, alloc_is, more_more]; exact c _
        go_enter Try.func77, Try.ntmps77
        go_wp2
        go_ret
        exact ⟨rfl, (more_of_below (by repeat (first | (with_reducible exact Below.refl _ _) | (with_reducible refine Below.drew ?_) | (with_reducible refine Below.alloc ?_ (by simp [more_size]; try omega) _) | (with_reducible refine Below.setCell ?_ (by simp [more_size]; try omega) _) | (with_reducible refine below_more ?_ _ (by simp [more_size]; try omega)))))⟩
  · have hf' : (f == -1) = false := by rw [beq_eq_false_iff_ne]; exact hf
    have e : partB l.length f h ex = (decide (0 ≤ f ∧ f < (l.length : Nat)) && h == 0) := by unfold partB; rw [if_neg hf]
    replace e := Lib.hid e
    clear he
    go_enter Try.func77, Try.ntmps77
    go_wp2
    all_goals
      go_ret
      refine ⟨ret_bool ?_, (more_of_below (by repeat (first | (with_reducible exact Below.refl _ _) | (with_reducible refine Below.drew ?_) | (with_reducible refine Below.alloc ?_ (by simp [more_size]; try omega) _) | (with_reducible refine Below.setCell ?_ (by simp [more_size]; try omega) _) | (with_reducible refine below_more ?_ _ (by simp [more_size]; try omega)))))⟩
      rw [e.out]
      first | (symm; simp; omega) | (symm; simp only [Bool.and_eq_true, Bool.and_eq_false_iff, decide_eq_false_iff_not, decide_eq_true_eq, beq_eq_false_iff_ne, beq_iff_eq, ne_eq]; omega) | simp [*]
/-- whether a kind of index may have this comparator -/
def comparedB (kd c : Int) (co : List Bool) : Bool :=
  if c = -1 then true else (decide (kd = 3) || decide (kd = 4)) && (decide (0 ≤ c ∧ c < co.length) && co.getD c.toNat false)
set_option maxRecDepth 100000 in
set_option maxHeartbeats 2000000 in
theorem compared_any (n : ByteArray) (kd c : Int) (ps : Value) (B : Option Addr) (cb : Nat) (co : List Bool) (C : Value) (w : World) (le : co.length ≤ 9223372036854775807) (he : HooksIn w B co) :
    Gives Try.prog 76 #[.agg #[.string n, .int .i64 kd, ps, .int .i64 c], .agg #[C, .slice B co.length cb]] w (.bool (comparedB kd c co)) := by
  by_cases hf : c = -1
  · subst hf
    have e : comparedB kd (-1) co = true := by unfold comparedB; rw [if_pos rfl]
    rw [e]
    clear he e
    go_enter Try.func76, Try.ntmps76
    go_wp2
    go_ret
    exact ⟨rfl, (more_of_below (by repeat (first | (with_reducible exact Below.refl _ _) | (with_reducible refine Below.drew ?_) | (with_reducible refine Below.alloc ?_ (by simp [more_size]; try omega) _) | (with_reducible refine Below.setCell ?_ (by simp [more_size]; try omega) _) | (with_reducible refine below_more ?_ _ (by simp [more_size]; try omega)))))⟩
  · have hf' : (c == -1) = false := by rw [beq_eq_false_iff_ne]; exact hf
    by_cases hk : kd = 3 ∨ kd = 4
    · have hk' : (decide (kd = 3) || decide (kd = 4)) = true := by simpa using hk
      have e : comparedB kd c co = (decide (0 ≤ c ∧ c < co.length) && co.getD c.toNat false) := by unfold comparedB; rw [if_neg hf, hk', Bool.true_and]
      rw [e]
      clear e hk'
      rcases (show c < 0 ∨ (0 ≤ c ∧ ¬ c < (co.length : Int)) ∨ (0 ≤ c ∧ c < (co.length : Int)) by omega) with h1 | ⟨h1, h2⟩ | ⟨h1, h2⟩
      · rw [decide_eq_false (by omega), Bool.false_and]
        clear he
        rcases hk with rfl | rfl
        all_goals
          go_enter Try.func76, Try.ntmps76
          go_wp2
          go_ret
          exact ⟨rfl, (more_of_below (by repeat (first | (with_reducible exact Below.refl _ _) | (with_reducible refine Below.drew ?_) | (with_reducible refine Below.alloc ?_ (by simp [more_size]; try omega) _) | (with_reducible refine Below.setCell ?_ (by simp [more_size]; try omega) _) | (with_reducible refine below_more ?_ _ (by simp [more_size]; try omega)))))⟩
      · rw [decide_eq_false (by omega), Bool.false_and]
        clear he
        rcases hk with rfl | rfl
        all_goals
          go_enter Try.func76, Try.ntmps76
          go_wp2
          go_ret
          exact ⟨rfl, (more_of_below (by repeat (first | (with_reducible exact Below.refl _ _) | (with_reducible refine Below.drew ?_) | (with_reducible refine Below.alloc ?_ (by simp [more_size]; try omega) _) | (with_reducible refine Below.setCell ?_ (by simp [more_size]; try omega) _) | (with_reducible refine below_more ?_ _ (by simp [more_size]; try omega)))))⟩
      · obtain ⟨k, rfl⟩ := Int.eq_ofNat_of_zero_le h1
        have hkl : k < co.length := by omega
        rw [decide_eq_true (by omega), Bool.true_and, Int.toNat_natCast, List.getD_eq_getElem?_getD, List.getElem?_eq_getElem hkl, Option.getD_some]
        obtain ⟨b, off, rfl, hb, hc⟩ := he k hkl
        obtain ⟨v, c0, hv⟩ := hc k hkl
        clear hc he
        replace c0 := fun y => (more_cell w y _ hb).trans c0
        generalize co[k] = bk at *
        rcases hv with ⟨rfl, rfl⟩ | ⟨rfl, fn, x, y, rfl⟩
        · have c1 : ∀ o o', ((w.alloc o).alloc o').cell? ⟨b, off + k, none⟩ = some .nilFunc := fun o o' => by rw [alloc_is, alloc_is, more_more]; exact c0 _
          rcases hk with rfl | rfl
          all_goals
            go_enter Try.func76, Try.ntmps76
            go_wp2
            go_ret
            exact ⟨rfl, (more_of_below (by repeat (first | (with_reducible exact Below.refl _ _) | (with_reducible refine Below.drew ?_) | (with_reducible refine Below.alloc ?_ (by simp [more_size]; try omega) _) | (with_reducible refine Below.setCell ?_ (by simp [more_size]; try omega) _) | (with_reducible refine below_more ?_ _ (by simp [more_size]; try omega)))))⟩
        · have c1 : ∀ o o', ((w.alloc o).alloc o').cell? ⟨b, off + k, none⟩ = some (.func fn x y) := fun o o' => by rw [alloc_is, alloc_is, more_more]; exact c0 _
          rcases hk with rfl | rfl
          all_goals
            go_enter Try.func76, Try.ntmps76
            go_wp2
            go_ret
            exact ⟨rfl, (more_of_below (by repeat (first | (with_reducible exact Below.refl _ _) | (with_reducible refine Below.drew ?_) | (with_reducible refine Below.alloc ?_ (by simp [more_size]; try omega) _) | (with_reducible refine Below.setCell ?_ (by simp [more_size]; try omega) _) | (with_reducible refine below_more ?_ _ (by simp [more_size]; try omega)))))⟩
    · have hk' : (decide (kd = 3) || decide (kd = 4)) = false := by simpa using hk
      have e : comparedB kd c co = false := by unfold comparedB; rw [if_neg hf, hk', Bool.false_and]
      rw [e]
      have k3 : (kd == 3) = false := by rw [beq_eq_false_iff_ne]; omega
      have k4 : (kd == 4) = false := by rw [beq_eq_false_iff_ne]; omega
      clear he e hk'
      go_enter Try.func76, Try.ntmps76
      go_wp2
      go_ret
      exact ⟨rfl, (more_of_below (by repeat (first | (with_reducible exact Below.refl _ _) | (with_reducible refine Below.drew ?_) | (with_reducible refine Below.alloc ?_ (by simp [more_size]; try omega) _) | (with_reducible refine Below.setCell ?_ (by simp [more_size]; try omega) _) | (with_reducible refine below_more ?_ _ (by simp [more_size]; try omega)))))⟩
end Go.Proofs.Ytilpgojkbgbinaa
