/- Plain: rows of items in order; what a merge has left. -/
import Derived.Test.YtilpgojkbgbinaaOrdS
import Derived.Test.YtilpgojkbgbinaaOrdT
set_option maxRecDepth 100000
set_option linter.unusedVariables false
set_option linter.unusedSimpArgs false
namespace Go.Proofs.Ytilpgojkbgbinaa
section
variable {β : Type} {r : β → β → Bool}
theorem Swo.lt_trans (h : Swo r) {a b c : β} (h1 : r a b = true) (h2 : r b c = true) : r a c = true := by
  cases e : r a c with
  | true => rfl
  | false =>
    have := h.tr a c b e (h.asym _ _ h2)
    rw [this] at h1; cases h1
/-- in order -/
def Sorted (r : β → β → Bool) (S : List β) : Prop := S.Pairwise (fun x y => r x y = true)
theorem ins_ex (h : Swo r) (x : β) : ∀ S : List β, Sorted r S → (∀ y ∈ S, r x y = true ∨ r y x = true) → ∃ S', S'.Perm (x :: S) ∧ Sorted r S'
  | [], _, _ => ⟨[x], List.Perm.refl _, by simp [Sorted]⟩
  | y :: S, hs, ht => by
    have hs' := List.pairwise_cons.1 hs
    rcases ht y (List.mem_cons_self ..) with h1 | h1
    · refine ⟨x :: y :: S, List.Perm.refl _, List.pairwise_cons.2 ⟨?_, hs⟩⟩
      intro z hz
      rcases List.mem_cons.1 hz with rfl | hz
      · exact h1
      · exact h.lt_trans h1 (hs'.1 z hz)
    · obtain ⟨S', hp, hS'⟩ := ins_ex h x S hs'.2 (fun z hz => ht z (List.mem_cons_of_mem _ hz))
      refine ⟨y :: S', (hp.cons y).trans (List.Perm.swap x y S), List.pairwise_cons.2 ⟨?_, hS'⟩⟩
      intro z hz
      rcases List.mem_cons.1 (hp.mem_iff.1 hz) with rfl | hz
      · exact h1
      · exact hs'.1 z hz
theorem sorted_ex (h : Swo r) : ∀ l : List β, l.Pairwise (fun x y => r x y = true ∨ r y x = true) → ∃ S, S.Perm l ∧ Sorted r S
  | [], _ => ⟨[], List.Perm.refl _, by simp [Sorted]⟩
  | x :: l, hl => by
    have hl' := List.pairwise_cons.1 hl
    obtain ⟨S, hp, hS⟩ := sorted_ex h l hl'.2
    obtain ⟨S', hp', hS'⟩ := ins_ex h x S hS (fun y hy => hl'.1 y (hp.mem_iff.1 hy))
    exact ⟨S', hp'.trans (hp.cons x), hS'⟩
theorem sorted_unique (h : Swo r) : ∀ S T : List β, S.Perm T → Sorted r S → Sorted r T → S = T
  | [], T, hp, _, _ => by rw [List.nil_perm.1 hp]
  | x :: S, T, hp, hS, hT => by
    cases T with
    | nil => exact absurd hp.length_eq (by simp)
    | cons y T =>
      have hS' := List.pairwise_cons.1 hS
      have hT' := List.pairwise_cons.1 hT
      have e : x = y := by
        rcases List.mem_cons.1 (hp.mem_iff.1 (List.mem_cons_self ..)) with h1 | h1
        · exact h1
        · rcases List.mem_cons.1 (hp.mem_iff.2 (List.mem_cons_self ..)) with h2 | h2
          · exact h2.symm
          · have a1 := hT'.1 x h1
            have a2 := hS'.1 y h2
            rw [h.asym _ _ a1] at a2; cases a2
      subst e
      rw [sorted_unique h S T ((List.perm_cons x).1 hp) hS'.2 hT'.2]
theorem Sorted.drop {S : List β} (h : Sorted r S) (k : Nat) : Sorted r (S.drop k) := List.Pairwise.sublist (List.drop_sublist k S) h
theorem Sorted.take {S : List β} (h : Sorted r S) (k : Nat) : Sorted r (S.take k) := List.Pairwise.sublist (List.take_sublist k S) h
/-- a pop out of a heap that holds what is left of a row in order -/
theorem pop_at (h : Swo r) (d : β) (l S : List β) (k : Nat) (hk : k < S.length) (hp : l.Perm (S.drop k)) (hS : Sorted r S) (H : IsHeap r d l) :
    nth d l 0 = S[k] ∧ ((popL r d l).take (l.length - 1)).Perm (S.drop (k + 1)) ∧ IsHeap r d ((popL r d l).take (l.length - 1)) := by
  have e := List.drop_eq_getElem_cons hk
  rw [e] at hp
  have hd := hS.drop k
  rw [e] at hd
  exact pop_sorted h d l (S.drop (k + 1)) S[k] hp (List.pairwise_cons.1 hd).1 H
end
section
variable {α : Type} {lt : α → α → Bool}
/-- the items of a row -/
def itsF (li : Int) (l : List α) : List (It α) := l.mapIdx fun i v => ⟨v, li, (i : Int)⟩
theorem itsF_length (li : Int) (l : List α) : (itsF li l).length = l.length := by simp [itsF]
theorem itsF_get (li : Int) (l : List α) (i : Nat) (h : i < l.length) : (itsF li l)[i]? = some ⟨l[i], li, (i : Int)⟩ := by simp [itsF, h]
theorem itsF_at (li : Int) (l : List α) (i : Nat) (h : i < (itsF li l).length) : (itsF li l)[i] = ⟨l[i]'(by rw [itsF_length] at h; exact h), li, (i : Int)⟩ := by simp [itsF]
theorem itsF_concat (li : Int) (l : List α) (x : α) : itsF li (l ++ [x]) = itsF li l ++ [⟨x, li, (l.length : Int)⟩] := by simp [itsF, List.mapIdx_concat]
theorem itsF_take (li : Int) (l : List α) (k : Nat) (h : k < l.length) : itsF li (l.take (k + 1)) = itsF li (l.take k) ++ [⟨l[k], li, (k : Int)⟩] := by
  rw [List.take_succ_eq_append_getElem h, itsF_concat, List.length_take]
  congr 3
  omega
theorem itsF_map (li : Int) (l : List α) : (itsF li l).map (·.v) = l := by
  apply List.ext_getElem (by simp [itsF_length])
  intro i h1 h2
  simp [itsF_at]
theorem itsF_apart (li : Int) (l : List α) : (itsF li l).Pairwise (fun x y => x.at_ < y.at_) := by
  rw [List.pairwise_iff_getElem]
  intro i j hi hj hij
  rw [itsF_at, itsF_at]
  simp only
  omega
theorem itsF_li (li : Int) (l : List α) : ∀ x ∈ itsF li l, x.li = li := by
  intro x hx
  obtain ⟨i, hi, rfl⟩ := List.getElem_of_mem hx
  rw [itsF_at]
theorem its_ex (h : Swo lt) (li : Int) (l : List α) : ∃ S, S.Perm (itsF li l) ∧ Sorted (ltS lt) S :=
  sorted_ex (ltS_swo h) _ ((itsF_apart li l).imp fun {x y} hxy => ltS_tot h x y (.inr (by omega)))
end
end Go.Proofs.Ytilpgojkbgbinaa
