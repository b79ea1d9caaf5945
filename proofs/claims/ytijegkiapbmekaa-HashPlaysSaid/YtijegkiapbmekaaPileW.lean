/- Piles: two of a row's elements change places, cell by cell. -/
import Derived.Test.YtijegkiapbmekaaPileI
set_option maxRecDepth 100000
set_option linter.unusedVariables false
set_option linter.unusedSimpArgs false
namespace Go.Proofs.Ytijegkiapbmekaa
open Go.RowKit
/-- a run of cells, written one by one from a place on -/
def rowW : Nat → List Value → List (Nat × Value)
  | _, [] => []
  | o, u :: r => (o, u) :: rowW (o + 1) r
theorem setsL_append : ∀ (a b : List (Nat × Value)) (xs : List Value), setsL xs (a ++ b) = setsL (setsL xs a) b
  | [], b, xs => rfl
  | (k, u) :: r, b, xs => setsL_append r b _
theorem rowW_get : ∀ (cs : List Value) (o : Nat) (xs : List Value) (k : Nat), (setsL xs (rowW o cs))[k]? = if o ≤ k ∧ k < o + cs.length ∧ k < xs.length then cs[k - o]? else xs[k]?
  | [], o, xs, k => by rw [if_neg (by simp; omega)]; rfl
  | u :: r, o, xs, k => by
    show (setsL (xs.set o u) (rowW (o + 1) r))[k]? = _
    rw [rowW_get r (o + 1) (xs.set o u) k, List.length_set, List.length_cons, List.getElem?_set]
    by_cases h1 : o = k
    · subst h1
      rw [if_neg (by omega), if_pos rfl, Nat.sub_self]
      by_cases h2 : o < xs.length
      · rw [if_pos h2, if_pos (by omega)]; rfl
      · rw [if_neg h2, if_neg (by omega), List.getElem?_eq_none (by omega)]
    · rw [if_neg h1]
      by_cases h2 : o + 1 ≤ k ∧ k < o + 1 + r.length ∧ k < xs.length
      · rw [if_pos h2, if_pos (by omega)]
        obtain ⟨d, rfl⟩ := Nat.exists_eq_add_of_le h2.1
        rw [show o + 1 + d - (o + 1) = d by omega, show o + 1 + d - o = d + 1 by omega]; rfl
      · rw [if_neg h2, if_neg (by omega)]
theorem rowW_mem : ∀ (cs : List Value) (o k : Nat) (u : Value), (k, u) ∈ rowW o cs → o ≤ k ∧ k < o + cs.length
  | [], o, k, u, h => by simp [rowW] at h
  | v :: r, o, k, u, h => by
    simp only [rowW, List.mem_cons, Prod.mk.injEq] at h
    rw [List.length_cons]
    rcases h with ⟨rfl, _⟩ | h
    · omega
    · have := rowW_mem r (o + 1) k u h; omega
section
variable {α : Type} {c : α → List Value} {s : Nat} {eT pT : TypeId} {fv : Value} {p : Nat} {K : List (Nat × Obj)} {w w' : World} {a : Option Nat} {l l' : List α} {x : α}
theorem setsL_row (hc : ∀ x, (c x).length = s) (hs : 0 < s) (l : List α) (i : Nat) (hi : i < l.length) (x : α) : setsL (rowC c l) (rowW (i * s) (c x)) = rowC c (l.set i x) := by
  have hlen : ∀ (ws : List (Nat × Value)) (xs : List Value), (setsL xs ws).length = xs.length := by
    intro ws; induction ws with
    | nil => intro xs; rfl
    | cons p r ih => intro xs; obtain ⟨k, u⟩ := p; exact (ih _).trans (List.length_set ..)
  apply row_ext hc hs (by rw [hlen, rowC_length hc, List.length_set])
  intro k hk t ht
  rw [List.length_set] at hk
  rw [rowW_get, hc, rowC_length hc, List.getElem_set]
  have hb : k * s + t < l.length * s := by
    have := Nat.mul_le_mul_right s (show k + 1 ≤ l.length from hk)
    rw [Nat.add_mul] at this; omega
  by_cases h1 : i = k
  · subst h1
    rw [if_pos (by omega), if_pos rfl, show i * s + t - i * s = t by omega]
  · rw [if_neg h1, if_neg ?_]
    · exact rowC_get hc l k t hk ht
    · intro ⟨h2, h3, _⟩
      rcases Nat.lt_or_ge k i with h4 | h4
      · have := Nat.mul_le_mul_right s (show k + 1 ≤ i from h4)
        rw [Nat.add_mul] at this; omega
      · have := Nat.mul_le_mul_right s (show i + 1 ≤ k by omega)
        rw [Nat.add_mul] at this; omega
theorem PileS.alloc (h : PileS c s eT pT fv p K w a l) (o : Obj) : PileS c s eT pT fv p K (w.alloc o) a l := (alloc_is w o) ▸ h.more _
theorem Keeps.alloc {q : Nat} (h : Keeps q a w w') (o : Obj) : Keeps q a w (w'.alloc o) := ⟨h.os, h.tape, h.output, Nat.le_trans h.size (by unfold World.alloc; rw [Array.size_push]; omega), fun k hk h1 h2 => (Below.heap_alloc w' o k (Nat.lt_of_lt_of_le hk h.size)).trans (h.block k hk h1 h2)⟩
theorem pile_swapd (hc : ∀ x, (c x).length = s) (hs : 0 < s) (h : PileS c s eT pT fv p K w a l) {g : Nat} (ha : a = some g) (i j : Nat) (hi : i < l.length) (hj : j < l.length) :
    PileS c s eT pT fv p K (puts w g (rowW (i * s) (c l[j]) ++ rowW (j * s) (c l[i]))) a (swp l i j) ∧ Keeps p a w (puts w g (rowW (i * s) (c l[j]) ++ rowW (j * s) (c l[i]))) :=
  h.puts (l' := swp l i j) ha _ (fun k u hm => by
    have hbi := Nat.mul_le_mul_right s (show i + 1 ≤ l.length from hi)
    have hbj := Nat.mul_le_mul_right s (show j + 1 ≤ l.length from hj)
    rw [Nat.add_mul] at hbi hbj
    rcases List.mem_append.1 hm with hm | hm
    · have := rowW_mem _ _ _ _ hm; rw [hc] at this; omega
    · have := rowW_mem _ _ _ _ hm; rw [hc] at this; omega) (swp_length _ _ _) (by
    rw [setsL_append, setsL_row hc hs l i hi l[j], setsL_row hc hs _ j (by rw [List.length_set]; exact hj) l[i]]
    unfold swp
    rw [List.getElem?_eq_getElem hi, List.getElem?_eq_getElem hj])
end
end Go.Proofs.Ytijegkiapbmekaa
