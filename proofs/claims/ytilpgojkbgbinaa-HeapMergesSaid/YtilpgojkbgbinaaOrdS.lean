/- The order of items is a strict order, and parts all items that stand at different places. -/
import Derived.Test.YtilpgojkbgbinaaStab
set_option maxRecDepth 100000
set_option linter.unusedVariables false
set_option linter.unusedSimpArgs false
namespace Go.Proofs.Ytilpgojkbgbinaa
open Go.RowKit
variable {α : Type} {lt : α → α → Bool}
theorem ltS_iff (x y : It α) : ltS lt x y = true ↔ (lt x.v y.v = true ∨ (lt y.v x.v = false ∧ (x.li < y.li ∨ (x.li = y.li ∧ x.at_ < y.at_)))) := by
  unfold ltS
  simp [orJ_lt]
theorem ltS_not (x y : It α) : ltS lt x y = false ↔ (lt x.v y.v = false ∧ (lt y.v x.v = true ∨ ¬ (x.li < y.li ∨ (x.li = y.li ∧ x.at_ < y.at_)))) := by
  rw [← Bool.not_eq_true, ltS_iff]
  cases lt x.v y.v <;> cases lt y.v x.v <;> simp
theorem ltS_swo (h : Swo lt) : Swo (ltS lt) where
  asym := fun a b hab => by
    rw [ltS_iff] at hab
    rw [ltS_not]
    rcases hab with h1 | ⟨h1, h2⟩
    · exact ⟨h.asym _ _ h1, .inl h1⟩
    · exact ⟨h1, .inr (by omega)⟩
  tr := fun a b c hab hbc => by
    rw [ltS_not] at *
    obtain ⟨h1, h2⟩ := hab
    obtain ⟨h3, h4⟩ := hbc
    refine ⟨h.tr _ _ _ h1 h3, ?_⟩
    cases hca : lt c.v a.v
    · right
      have e1 : lt b.v a.v = false := h.tr _ _ _ h3 hca
      have e2 : lt c.v b.v = false := h.tr _ _ _ hca h1
      rw [e1] at h2; rw [e2] at h4
      simp only [Bool.false_eq_true, false_or] at h2 h4
      omega
    · exact .inl rfl
/-- items that are told apart by their places -/
theorem ltS_tot (h : Swo lt) (x y : It α) (hp : x.li ≠ y.li ∨ x.at_ ≠ y.at_) : ltS lt x y = true ∨ ltS lt y x = true := by
  rw [ltS_iff, ltS_iff]
  cases h1 : lt x.v y.v
  · cases h2 : lt y.v x.v
    · simp; omega
    · simp
  · simp
end Go.Proofs.Ytilpgojkbgbinaa
