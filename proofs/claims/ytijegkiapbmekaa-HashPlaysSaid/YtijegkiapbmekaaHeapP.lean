/- Plain: binary heaps in rows. No program in sight. -/
import Derived.Test.YtijegkiapbmekaaPlain
set_option maxRecDepth 100000
set_option linter.unusedVariables false
set_option linter.unusedSimpArgs false
namespace Go.Proofs.Ytijegkiapbmekaa
section
variable {α : Type}

def swp (l : List α) (i j : Nat) : List α :=
  match l[i]?, l[j]? with
  | some a, some b => (l.set i b).set j a
  | _, _ => l
theorem swp_length (l : List α) (i j : Nat) : (swp l i j).length = l.length := by
  unfold swp; split <;> simp
theorem swp_get (l : List α) (i j k : Nat) (hi : i < l.length) (hj : j < l.length) : (swp l i j)[k]? = if k = j then l[i]? else if k = i then l[j]? else l[k]? := by
  unfold swp
  rw [List.getElem?_eq_getElem hi, List.getElem?_eq_getElem hj]
  simp only [List.getElem?_set, List.length_set]
  by_cases h1 : j = k
  · subst h1; simp [hj]
  · by_cases h2 : i = k
    · subst h2; simp [h1, hi, Ne.symm h1]
    · simp [h1, h2, Ne.symm h1, Ne.symm h2]
theorem swp_perm (l : List α) (i j : Nat) (hi : i < l.length) (hj : j < l.length) : (swp l i j).Perm l := by
  unfold swp
  rw [List.getElem?_eq_getElem hi, List.getElem?_eq_getElem hj]
  have := Array.swap_perm (xs := l.toArray) (i := i) (j := j) (by simpa using hi) (by simpa using hj)
  rw [Array.perm_iff_toList_perm] at this
  simpa [Array.swap] using this

/-- what is at a place; the default where there is none -/
def nth (d : α) (l : List α) (k : Nat) : α := (l[k]?).getD d
theorem nth_swp (d : α) (l : List α) (i j k : Nat) (hi : i < l.length) (hj : j < l.length) : nth d (swp l i j) k = if k = j then nth d l i else if k = i then nth d l j else nth d l k := by
  unfold nth; rw [swp_get l i j k hi hj]; split <;> (try split) <;> rfl
theorem nth_get (d : α) (l : List α) (k : Nat) (h : k < l.length) : nth d l k = l[k] := by unfold nth; rw [List.getElem?_eq_getElem h]; rfl

structure Swo (lt : α → α → Bool) : Prop where
  asym : ∀ a b, lt a b = true → lt b a = false
  tr : ∀ a b c, lt a b = false → lt b c = false → lt a c = false
variable (lt : α → α → Bool)
def le (a b : α) : Prop := lt b a = false
variable {lt}
theorem Swo.refl (h : Swo lt) (a : α) : le lt a a := by
  unfold le
  cases e : lt a a with
  | false => rfl
  | true => exact absurd (h.asym a a e) (by rw [e]; decide)
theorem Swo.trans (h : Swo lt) {a b c : α} (h1 : le lt a b) (h2 : le lt b c) : le lt a c := h.tr c b a h2 h1
theorem Swo.of_lt (h : Swo lt) {a b : α} (h1 : lt a b = true) : le lt a b := h.asym a b h1
variable (lt)

def par (k : Nat) : Nat := (k - 1) / 2
/-- sifting up -/
def upL (d : α) : Nat → List α → Nat → List α
  | 0, l, _ => l
  | n + 1, l, j => if par j = j then l else if lt (nth d l j) (nth d l (par j)) = true then upL d n (swp l (par j) j) (par j) else l
/-- the lesser of two children -/
def kid (d : α) (l : List α) (i n : Nat) : Nat := if 2 * i + 2 < n ∧ lt (nth d l (2 * i + 2)) (nth d l (2 * i + 1)) = true then 2 * i + 2 else 2 * i + 1
/-- sifting down, of the first n -/
def downL (d : α) : Nat → List α → Nat → Nat → List α
  | 0, l, _, _ => l
  | f + 1, l, i, n => if n ≤ 2 * i + 1 then l else if lt (nth d l (kid lt d l i n)) (nth d l i) = true then downL d f (swp l i (kid lt d l i n)) (kid lt d l i n) n else l
theorem upL_length (d : α) : ∀ (f : Nat) (l : List α) (j : Nat), (upL lt d f l j).length = l.length
  | 0, l, j => rfl
  | f + 1, l, j => by
    unfold upL; split
    · rfl
    · split
      · rw [upL_length d f, swp_length]
      · rfl
theorem downL_length (d : α) : ∀ (f : Nat) (l : List α) (i n : Nat), (downL lt d f l i n).length = l.length
  | 0, l, _, _ => rfl
  | f + 1, l, i, n => by
    unfold downL; split
    · rfl
    · split
      · rw [downL_length d f, swp_length]
      · rfl
theorem kid_bd (d : α) (l : List α) (i n : Nat) (h : 2 * i + 1 < n) : i < kid lt d l i n ∧ kid lt d l i n < n ∧ (kid lt d l i n = 2 * i + 1 ∨ kid lt d l i n = 2 * i + 2) := by
  unfold kid; split <;> omega
theorem upL_perm (d : α) : ∀ (f : Nat) (l : List α) (j : Nat), j < l.length → (upL lt d f l j).Perm l
  | 0, l, j, _ => List.Perm.refl _
  | f + 1, l, j, h => by
    have hp : par j < l.length := by unfold par; omega
    unfold upL; split
    · exact List.Perm.refl _
    · split
      · exact (upL_perm d f _ _ (by rw [swp_length]; exact hp)).trans (swp_perm l _ _ hp h)
      · exact List.Perm.refl _
theorem downL_perm (d : α) : ∀ (f : Nat) (l : List α) (i n : Nat), n ≤ l.length → i < l.length → (downL lt d f l i n).Perm l
  | 0, l, _, _, _, _ => List.Perm.refl _
  | f + 1, l, i, n, hn, hi => by
    unfold downL; split
    · exact List.Perm.refl _
    · rename_i h
      have hk := kid_bd lt d l i n (by omega)
      split
      · exact (downL_perm d f _ _ n (by rw [swp_length]; exact hn) (by rw [swp_length]; omega)).trans (swp_perm l _ _ hi (by omega))
      · exact List.Perm.refl _
/-- sifting down leaves what lies behind the first n, and what lies ahead of i -/
theorem downL_out (d : α) : ∀ (f : Nat) (l : List α) (i n k : Nat), n ≤ l.length → i < n → n ≤ k ∨ k < i → nth d (downL lt d f l i n) k = nth d l k
  | 0, l, _, _, _, _, _, _ => rfl
  | f + 1, l, i, n, k, hn, hi, hk => by
    unfold downL; split
    · rfl
    · rename_i h
      have hb := kid_bd lt d l i n (by omega)
      split
      · rw [downL_out d f _ _ n k (by rw [swp_length]; exact hn) hb.2.1 (by omega), nth_swp d l _ _ _ (by omega) (by omega), if_neg (by omega), if_neg (by omega)]
      · rfl
/-- a heap from a place on, of the first n -/
def HeapFrom (d : α) (l : List α) (i0 n : Nat) : Prop := ∀ k, 0 < k → k < n → i0 ≤ par k → le lt (nth d l (par k)) (nth d l k)
variable {lt}
theorem downL_heap (h : Swo lt) (d : α) (i0 : Nat) : ∀ (f : Nat) (l : List α) (i n : Nat), n ≤ l.length → i < n → i0 ≤ i → n ≤ i + f →
    (∀ k, 0 < k → k < n → i0 ≤ par k → par k ≠ i → le lt (nth d l (par k)) (nth d l k)) → (∀ k, 0 < k → k < n → par k = i → 0 < i → i0 ≤ par i → le lt (nth d l (par i)) (nth d l k)) → HeapFrom lt d (downL lt d f l i n) i0 n
  | 0, l, i, n, hn, hi, _, hf, _, _ => by omega
  | f + 1, l, i, n, hn, hi, h0, hf, hA, hB => by
    unfold downL; split
    · rename_i hc
      intro k hk1 hk2 hk3
      exact hA k hk1 hk2 hk3 (by unfold par; omega)
    · rename_i hc
      have hb := kid_bd lt d l i n (by omega)
      have hkid : ∀ k, 0 < k → k < n → par k = i → le lt (nth d l (kid lt d l i n)) (nth d l k) := by
        intro k hk1 hk2 hk3
        have : k = 2 * i + 1 ∨ k = 2 * i + 2 := by unfold par at hk3; omega
        unfold kid
        by_cases hq : 2 * i + 2 < n ∧ lt (nth d l (2 * i + 2)) (nth d l (2 * i + 1)) = true
        · rw [if_pos hq]
          rcases this with rfl | rfl
          · exact h.of_lt hq.2
          · exact h.refl _
        · rw [if_neg hq]
          rcases this with rfl | rfl
          · exact h.refl _
          · unfold le
            cases e : lt (nth d l (2 * i + 2)) (nth d l (2 * i + 1)) with
            | false => rfl
            | true => exact absurd ⟨hk2, e⟩ hq
      generalize kid lt d l i n = c at *
      have hpc : par c = i := by unfold par; omega
      split
      · rename_i hl
        refine downL_heap h d i0 f _ c n (by rw [swp_length]; exact hn) hb.2.1 (by omega) (by omega) ?_ ?_
        · intro k hk1 hk2 hk3 hk4
          rw [nth_swp d l i c _ (by omega) (by omega), nth_swp d l i c _ (by omega) (by omega)]
          rw [if_neg hk4]
          by_cases q1 : par k = i
          · rw [if_pos q1]
            by_cases q2 : k = c
            · rw [if_pos q2]; exact h.of_lt hl
            · rw [if_neg q2, if_neg (by unfold par at q1; omega)]
              exact hkid k hk1 hk2 q1
          · rw [if_neg q1]
            by_cases q2 : k = c
            · subst q2; exact absurd hpc q1
            · rw [if_neg q2]
              by_cases q3 : k = i
              · subst q3
                rw [if_pos rfl]
                exact hB c (by omega) hb.2.1 hpc hk1 hk3
              · rw [if_neg q3]
                exact hA k hk1 hk2 hk3 q1
        · intro k hk1 hk2 hk3 hk4 hk5
          have hkc : k ≠ c ∧ k ≠ i := by unfold par at hk3; omega
          rw [nth_swp d l i c _ (by omega) (by omega), nth_swp d l i c _ (by omega) (by omega), hpc, if_neg (by omega), if_pos rfl, if_neg hkc.1, if_neg hkc.2]
          have := hA k hk1 hk2 (by omega) (by omega)
          rwa [hk3] at this
      · rename_i hl
        intro k hk1 hk2 hk3
        by_cases q : par k = i
        · have h1 : le lt (nth d l i) (nth d l c) := by
            unfold le
            cases e : lt (nth d l c) (nth d l i) with
            | false => rfl
            | true => exact absurd e hl
          rw [q]
          exact h.trans h1 (hkid k hk1 hk2 q)
        · exact hA k hk1 hk2 hk3 q
theorem upL_heap (h : Swo lt) (d : α) : ∀ (f : Nat) (l : List α) (j : Nat), j < l.length → j ≤ f →
    (∀ k, 0 < k → k < l.length → k ≠ j → le lt (nth d l (par k)) (nth d l k)) → (∀ k, 0 < k → k < l.length → par k = j → 0 < j → le lt (nth d l (par j)) (nth d l k)) → HeapFrom lt d (upL lt d f l j) 0 l.length
  | 0, l, j, hj, hf, hA, hB => by
    intro k hk1 hk2 _
    exact hA k hk1 hk2 (by omega)
  | f + 1, l, j, hj, hf, hA, hB => by
    unfold upL; split
    · rename_i hc
      have : j = 0 := by unfold par at hc; omega
      intro k hk1 hk2 _
      exact hA k hk1 hk2 (by omega)
    · rename_i hc
      have hj0 : 0 < j := by
        rcases Nat.eq_zero_or_pos j with q | q
        · subst q; exact absurd rfl hc
        · exact q
      have hpj : par j < j := by unfold par; omega
      split
      · rename_i hl
        have := upL_heap h d f (swp l (par j) j) (par j) (by rw [swp_length]; omega) (by omega) ?_ ?_
        · rwa [swp_length] at this
        · intro k hk1 hk2 hk3
          rw [swp_length] at hk2
          rw [nth_swp d l _ _ _ (by omega) (by omega), nth_swp d l _ _ _ (by omega) (by omega)]
          by_cases q1 : k = j
          · subst q1
            rw [if_neg (by omega), if_pos rfl, if_pos rfl]
            exact h.of_lt hl
          · rw [if_neg q1, if_neg hk3]
            by_cases q2 : par k = j
            · rw [if_pos q2]
              exact hB k hk1 hk2 q2 hj0
            · rw [if_neg q2]
              have hk := hA k hk1 hk2 q1
              by_cases q3 : par k = par j
              · rw [if_pos q3]
                rw [q3] at hk
                exact h.trans (h.of_lt hl) hk
              · rw [if_neg q3]; exact hk
        · intro k hk1 hk2 hk3 hk4
          rw [swp_length] at hk2
          rw [nth_swp d l _ _ _ (by unfold par at *; omega) (by omega), nth_swp d l _ _ _ (by omega) (by omega)]
          rw [if_neg (by unfold par at *; omega), if_neg (by unfold par at *; omega)]
          have hpp := hA (par j) (by omega) (by omega) (by omega)
          by_cases q1 : k = j
          · subst q1
            rw [if_pos rfl]
            exact hpp
          · rw [if_neg q1, if_neg (by unfold par at *; omega)]
            have hk := hA k hk1 hk2 q1
            rw [hk3] at hk
            exact h.trans hpp hk
      · rename_i hl
        intro k hk1 hk2 _
        by_cases q : k = j
        · subst q
          unfold le
          cases e : lt (nth d l k) (nth d l (par k)) with
          | false => rfl
          | true => exact absurd e hl
        · exact hA k hk1 hk2 q
theorem heap_least (h : Swo lt) (d : α) (l : List α) (n : Nat) (H : HeapFrom lt d l 0 n) : ∀ k, k < n → le lt (nth d l 0) (nth d l k) := by
  intro k
  induction k using Nat.strongRecOn with
  | _ k ih =>
    intro hk
    rcases Nat.eq_zero_or_pos k with q | q
    · subst q; exact h.refl _
    · have hp : par k < k := by unfold par; omega
      exact h.trans (ih (par k) hp (by omega)) (H k q hk (by omega))
variable (lt)
/-- making a heap: from the last parent on, down to the first -/
def initL (d : α) : Nat → List α → List α
  | 0, l => l
  | i + 1, l => initL d i (downL lt d l.length l i l.length)
def popL (d : α) (l : List α) : List α := downL lt d (l.length - 1) (swp l 0 (l.length - 1)) 0 (l.length - 1)
def pushL (d : α) (l : List α) (x : α) : List α := upL lt d l.length (l ++ [x]) l.length
variable {lt}
theorem initL_heap (h : Swo lt) (d : α) : ∀ (i : Nat) (l : List α), 2 * i ≤ l.length → HeapFrom lt d l i l.length → HeapFrom lt d (initL lt d i l) 0 l.length
  | 0, l, _, H => H
  | i + 1, l, hi, H => by
    unfold initL
    have := initL_heap h d i (downL lt d l.length l i l.length) (by rw [downL_length]; omega) ?_
    · rwa [downL_length] at this
    · rw [downL_length]
      refine downL_heap h d i l.length l i l.length (Nat.le_refl _) (by omega) (Nat.le_refl _) (by omega) ?_ ?_
      · intro k hk1 hk2 hk3 hk4
        exact H k hk1 hk2 (by omega)
      · intro k hk1 hk2 hk3 hk4 hk5
        unfold par at hk5; omega
theorem initL_length (d : α) : ∀ (i : Nat) (l : List α), (initL lt d i l).length = l.length
  | 0, l => rfl
  | i + 1, l => by unfold initL; rw [initL_length d i, downL_length]
theorem initL_perm (d : α) : ∀ (i : Nat) (l : List α), 2 * i ≤ l.length → (initL lt d i l).Perm l
  | 0, l, _ => List.Perm.refl _
  | i + 1, l, h => by
    unfold initL
    exact (initL_perm d i _ (by rw [downL_length]; omega)).trans (downL_perm lt d _ l i _ (Nat.le_refl _) (by omega))
/-- a heap -/
def IsHeap (lt : α → α → Bool) (d : α) (l : List α) : Prop := HeapFrom lt d l 0 l.length
theorem init_isHeap (h : Swo lt) (d : α) (l : List α) : IsHeap lt d (initL lt d (l.length / 2) l) := by
  unfold IsHeap
  rw [initL_length]
  refine initL_heap h d _ l (by omega) ?_
  intro k hk1 hk2 hk3
  unfold par at hk3
  omega
theorem popL_length (d : α) (l : List α) : (popL lt d l).length = l.length := by unfold popL; rw [downL_length, swp_length]
theorem popL_last (d : α) (l : List α) (hl : 0 < l.length) : nth d (popL lt d l) (l.length - 1) = nth d l 0 := by
  unfold popL
  by_cases q : l.length = 1
  · have e : l.length - 1 = 0 := by omega
    rw [e]
    unfold downL
    rw [nth_swp d l _ _ _ (by omega) (by omega), if_pos rfl]
  · rw [downL_out lt d _ _ _ _ _ (by rw [swp_length]; omega) (by omega) (by omega), nth_swp d l _ _ _ (by omega) (by omega), if_pos rfl]
theorem popL_perm (d : α) (l : List α) (hl : 0 < l.length) : (popL lt d l).Perm l := by
  unfold popL
  exact (downL_perm lt d _ _ _ _ (by rw [swp_length]; omega) (by rw [swp_length]; omega)).trans (swp_perm l _ _ hl (by omega))
theorem popL_heap (h : Swo lt) (d : α) (l : List α) (hl : 0 < l.length) (H : IsHeap lt d l) : IsHeap lt d ((popL lt d l).take (l.length - 1)) := by
  have e : ((popL lt d l).take (l.length - 1)).length = l.length - 1 := by rw [List.length_take, popL_length]; omega
  unfold IsHeap
  rw [e]
  by_cases q : l.length = 1
  · intro k hk1 hk2; omega
  · have : HeapFrom lt d (popL lt d l) 0 (l.length - 1) := by
      unfold popL
      refine downL_heap h d 0 _ _ 0 _ (by rw [swp_length]; omega) (by omega) (Nat.le_refl _) (by omega) ?_ ?_
      · intro k hk1 hk2 hk3 hk4
        rw [nth_swp d l _ _ _ (by omega) (by omega), nth_swp d l _ _ _ (by omega) (by omega)]
        have hp : par k < k := by unfold par; omega
        rw [if_neg (by omega), if_neg hk4, if_neg (by omega), if_neg (by omega)]
        exact H k hk1 (by omega) hk3
      · intro k hk1 hk2 hk3 hk4; omega
    intro k hk1 hk2 hk3
    have hp : par k < k := by unfold par; omega
    have := this k hk1 hk2 hk3
    unfold nth at *
    rwa [List.getElem?_take_of_lt (by omega), List.getElem?_take_of_lt (by omega)]
/-- what a pop gives: the first one, which is least; the others are a heap again -/
theorem pop_law (h : Swo lt) (d : α) (l : List α) (hl : 0 < l.length) (H : IsHeap lt d l) :
    (nth d l 0 :: (popL lt d l).take (l.length - 1)).Perm l ∧ (∀ a ∈ l, le lt (nth d l 0) a) ∧ IsHeap lt d ((popL lt d l).take (l.length - 1)) := by
  refine ⟨?_, ?_, popL_heap h d l hl H⟩
  · have e := popL_last (lt := lt) d l hl
    have hlen := popL_length (lt := lt) d l
    have hp := popL_perm (lt := lt) d l hl
    rw [nth_get d _ _ (by rw [hlen]; omega)] at e
    have e2 : popL lt d l = (popL lt d l).take (l.length - 1) ++ [nth d l 0] := by
      conv => lhs; rw [← List.take_append_drop (l.length - 1) (popL lt d l)]
      rw [List.drop_eq_getElem_cons (by rw [hlen]; omega), List.drop_eq_nil_of_le (by rw [hlen]; omega), e]
    rw [e2] at hp
    refine List.Perm.trans ?_ hp
    exact (List.perm_append_singleton _ _).symm
  · intro a ha
    obtain ⟨k, hk, rfl⟩ := List.mem_iff_getElem.1 ha
    have := heap_least h d l l.length H k hk
    rwa [nth_get d l k hk] at this
theorem push_law (h : Swo lt) (d : α) (l : List α) (x : α) (H : IsHeap lt d l) : (pushL lt d l x).Perm (x :: l) ∧ IsHeap lt d (pushL lt d l x) ∧ (pushL lt d l x).length = l.length + 1 := by
  have hlen : (pushL lt d l x).length = l.length + 1 := by unfold pushL; rw [upL_length]; simp
  refine ⟨?_, ?_, hlen⟩
  · unfold pushL
    exact (upL_perm lt d _ _ _ (by simp)).trans (List.perm_append_singleton _ _)
  · unfold IsHeap
    rw [hlen]
    unfold pushL
    have := upL_heap h d l.length (l ++ [x]) l.length (by simp) (Nat.le_refl _) ?_ ?_
    · simpa using this
    · intro k hk1 hk2 hk3
      have hk4 : k < l.length := by simp at hk2; omega
      have hp : par k < k := by unfold par; omega
      have := H k hk1 hk4 (by omega)
      unfold nth at *
      rwa [List.getElem?_append_left (by omega), List.getElem?_append_left (by omega)]
    · intro k hk1 hk2 hk3 hk4
      simp at hk2
      unfold par at hk3
      omega
end
end Go.Proofs.Ytijegkiapbmekaa
