/- Plain: rows of values stand in an order, and so do rows by several of their fields, upwards and downwards. No program in sight. -/
import Derived.Test.YthmnaocoogfidaaBefore
set_option maxRecDepth 100000
set_option linter.unusedVariables false
set_option linter.unusedSimpArgs false
namespace Go.Proofs.Ythmnaocoogfidaa

theorem rowsV_self : ∀ l : List Val, rowsV l l = 0
  | [] => rfl
  | a :: l => by unfold rowsV; rw [cmpV_refl, rowsV_self l]; rfl
theorem rowsV_anti : ∀ l m : List Val, rowsV m l = -rowsV l m
  | [], [] => rfl
  | [], _ :: _ => rfl
  | _ :: _, [] => rfl
  | a :: l, b :: m => by
    unfold rowsV
    rw [rowsV_anti l m, cmpV_is.anti a b]
    unfold orI
    by_cases e : cmpV a b = 0
    · rw [if_pos (by omega), if_pos e]
    · rw [if_neg (by omega), if_neg e]
theorem rowsV_cons (a b : Val) (l m : List Val) : rowsV (a :: l) (b :: m) = orI (cmpV a b) (rowsV l m) := rfl
theorem rowsV_trans : ∀ l m n : List Val, rowsV l m ≤ 0 → rowsV m n ≤ 0 → rowsV l n ≤ 0
  | [], _, [], _, _ => by unfold rowsV; omega
  | [], _, _ :: _, _, _ => by unfold rowsV; omega
  | _ :: _, [], _, h, _ => by unfold rowsV at h; omega
  | _ :: _, _ :: _, [], _, h => by unfold rowsV at h; omega
  | x :: l, y :: m, z :: n, h1, h2 => by
    have h := cmpV_is
    have k := rowsV_trans l m n
    rw [rowsV_cons] at h1 h2 ⊢
    unfold orI at h1 h2 ⊢
    by_cases e : cmpV x y = 0
    · rw [if_pos e] at h1
      by_cases f : cmpV y z = 0
      · rw [if_pos f] at h2
        have a := h.trans x y z (by omega) (by omega)
        have b := h.trans z y x (by rw [h.anti y z]; omega) (by rw [h.anti x y]; omega)
        rw [h.anti x z] at b
        rw [if_pos (by omega)]
        exact k h1 h2
      · rw [if_neg f] at h2
        have := h.lt_of' (x := x) (y := y) (z := z) (by omega) (by omega)
        rw [if_neg (by omega)]; omega
    · rw [if_neg e] at h1
      by_cases f : cmpV y z = 0
      · have := h.lt_of (x := x) (y := y) (z := z) (by omega) (by omega)
        rw [if_neg (by omega)]; omega
      · rw [if_neg f] at h2
        have := h.lt_of (x := x) (y := y) (z := z) (by omega) (by omega)
        rw [if_neg (by omega)]; omega
theorem rowsV_is : IsCmp rowsV := ⟨rowsV_self, rowsV_anti, rowsV_trans⟩
theorem IsCmp.neg {α : Type} {c : α → α → Int} (h : IsCmp c) : IsCmp (fun x y => -c x y) where
  self x := by rw [h.self]; rfl
  anti x y := by rw [h.anti x y]
  trans x y z h1 h2 := by
    have := h.trans z y x (by rw [h.anti y z]; exact h2) (by rw [h.anti x y]; exact h1)
    rw [h.anti x z] at this; exact this
def cmpO : List Ord → List Val → List Val → Int
  | [], _, _ => 0
  | o :: os, a, b => orI (if o.d = true then -rowsV (ofL a o.f) (ofL b o.f) else rowsV (ofL a o.f) (ofL b o.f)) (cmpO os a b)
theorem cmpO_is : ∀ os : List Ord, IsCmp (cmpO os)
  | [] => ⟨fun _ => rfl, fun _ _ => rfl, fun _ _ _ _ _ => by unfold cmpO; omega⟩
  | ⟨f, true⟩ :: os => ((rowsV_is.on (fun l => ofL l f)).neg).lex (cmpO_is os)
  | ⟨f, false⟩ :: os => (rowsV_is.on (fun l => ofL l f)).lex (cmpO_is os)
theorem befL_eq : ∀ (os : List Ord) (a b : List Val) (i j : Int), befL os a b i j = decide (cmpO os a b < 0 ∨ (cmpO os a b = 0 ∧ i < j))
  | [], a, b, i, j => by unfold befL cmpO; simp
  | ⟨f, d⟩ :: os, a, b, i, j => by
    have ih := befL_eq os a b i j
    unfold befL cmpO
    dsimp only
    generalize rowsV (ofL a f) (ofL b f) = r
    by_cases h : r = 0
    · subst h
      rw [if_pos rfl, ih]
      cases d <;> simp [orI]
    · rw [if_neg h]
      unfold orI
      cases d
      · simp only [Bool.false_eq_true, if_false, if_neg h, Bool.bne_false]
        rw [Bool.eq_iff_iff, decide_eq_true_iff, decide_eq_true_iff]; omega
      · simp only [if_true, if_neg (show ¬ -r = 0 by omega), Bool.bne_true]
        rw [Bool.eq_iff_iff, Bool.not_eq_true', decide_eq_false_iff_not, decide_eq_true_iff]; omega
/-- the law -/
theorem order_law (os : List Ord) (a b c : List Val) :
    befL os b a 2 1 = !befL os a b 1 2 ∧ befL os a a 1 1 = false ∧ (befL os a b 1 2 = true → befL os b c 2 3 = true → befL os a c 1 3 = true) ∧ (befL os a b 1 2 = false → befL os b c 2 3 = false → befL os a c 1 3 = false) := by
  have h := cmpO_is os
  simp only [befL_eq]
  refine ⟨?_, ?_, ?_, ?_⟩
  · rw [h.anti a b, Bool.eq_iff_iff, Bool.not_eq_true', decide_eq_false_iff_not, decide_eq_true_iff]; omega
  · rw [h.self, decide_eq_false_iff_not]; omega
  · intro h1 h2
    rw [decide_eq_true_iff] at *
    have := h.trans a b c (by omega) (by omega)
    omega
  · intro h1 h2
    rw [decide_eq_false_iff_not] at *
    have := h.lt_of (x := c) (y := b) (z := a) (by rw [h.anti b c]; omega) (by rw [h.anti a b]; omega)
    rw [h.anti a c] at this
    omega
end Go.Proofs.Ythmnaocoogfidaa
