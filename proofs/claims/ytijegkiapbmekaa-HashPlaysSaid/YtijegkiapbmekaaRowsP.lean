/- Plain: comparing rows of values is an order. -/
import Derived.Test.YtijegkiapbmekaaOrdP
set_option maxRecDepth 100000
set_option linter.unusedVariables false
set_option linter.unusedSimpArgs false
namespace Go.Proofs.Ytijegkiapbmekaa
theorem lex_trans {α : Type} {c : α → α → Int} (h : IsCmp c) (x y z : α) (d1 d2 d3 : Int) (hd : d1 ≤ 0 → d2 ≤ 0 → d3 ≤ 0) (h1 : orI (c x y) d1 ≤ 0) (h2 : orI (c y z) d2 ≤ 0) : orI (c x z) d3 ≤ 0 := by
  unfold orI at *
  by_cases e : c x y = 0
  · rw [if_pos e] at h1
    by_cases f : c y z = 0
    · rw [if_pos f] at h2
      have a := h.trans x y z (by omega) (by omega)
      have b := h.trans z y x (by rw [h.anti y z]; omega) (by rw [h.anti x y]; omega)
      rw [h.anti x z] at b
      rw [if_pos (by omega)]
      exact hd h1 h2
    · rw [if_neg f] at h2
      have := h.lt_of' (x := x) (y := y) (z := z) (by omega) (by omega)
      rw [if_neg (by omega)]; omega
  · rw [if_neg e] at h1
    by_cases f : c y z = 0
    · have := h.lt_of (x := x) (y := y) (z := z) (by omega) (by omega)
      rw [if_neg (by omega)]; omega
    · rw [if_neg f] at h2
      have := h.lt_of (x := x) (y := y) (z := z) (by omega) (by omega)
      rw [if_neg (by omega)]; omega
theorem rowsV_anti : ∀ x y : List Val, rowsV y x = -rowsV x y
  | [], [] => rfl
  | [], _ :: _ => rfl
  | _ :: _, [] => rfl
  | a :: l, b :: m => by
    have ih := rowsV_anti l m
    have h := cmpV_is.anti a b
    unfold rowsV orI
    rw [h, ih]
    by_cases e : cmpV a b = 0
    · rw [if_pos (by omega), if_pos e]
    · rw [if_neg (by omega), if_neg e]
theorem rowsV_trans : ∀ x y z : List Val, rowsV x y ≤ 0 → rowsV y z ≤ 0 → rowsV x z ≤ 0
  | [], _, [], _, _ => by show (0 : Int) ≤ 0; decide
  | [], _, _ :: _, _, _ => by show (-1 : Int) ≤ 0; decide
  | _ :: _, [], _, h, _ => by
    have : (1 : Int) ≤ 0 := h
    omega
  | _ :: _, _ :: _, [], _, h => by
    have : (1 : Int) ≤ 0 := h
    omega
  | a :: l, b :: m, c :: n, h1, h2 => by
    have ih := rowsV_trans l m n
    exact lex_trans cmpV_is a b c _ _ _ ih h1 h2
theorem rowsV_refl : ∀ l : List Val, rowsV l l = 0
  | [] => rfl
  | a :: l => by
    have ih := rowsV_refl l
    unfold rowsV
    rw [ih, show cmpV a a = 0 from cmpV_is.self a]
    rfl
theorem rows_is : IsCmp rowsV := ⟨rowsV_refl, rowsV_anti, rowsV_trans⟩
end Go.Proofs.Ytijegkiapbmekaa
