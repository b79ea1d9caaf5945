/- The document's rows hold what a store holds: plain. -/
import Derived.Test.YtilpgojkbgbinaaRef9D
set_option maxRecDepth 100000
set_option linter.unusedVariables false
set_option linter.unusedSimpArgs false
namespace Go.Proofs.Ytilpgojkbgbinaa
open Go.RowKit
/-- rows by number, and what they hold -/
structure Agree (h : Int → Option Row9) (L : List Slt) : Prop where
  sorted : (L.map Slt.id).Pairwise (· < ·)
  each : ∀ s ∈ L, h s.id = some (s.ver, s.vals)
  all : ∀ id, h id ≠ none → ∃ s ∈ L, s.id = id
section
variable {h : Int → Option Row9} {L R : List Slt} {id : Int} {k : Nat}
theorem Agree.none9 : Agree (fun _ => none) [] := ⟨by simp, fun s hs => (by cases hs), fun id h => absurd rfl h⟩
theorem Agree.lt (a : Agree h L) {i j : Nat} (hi : i < L.length) (hj : j < L.length) (hij : i < j) : L[i].id < L[j].id := by
  have := List.pairwise_iff_getElem.1 a.sorted i j (by simpa using hi) (by simpa using hj) hij
  simpa using this
theorem Agree.has (a : Agree h L) {s : Slt} (hs : s ∈ L) : h s.id ≠ none := by rw [a.each s hs]; simp
theorem Agree.no (a : Agree h L) (hn : h id = none) : ∀ k, AtK L id k → okAt L id k = false := fun k hk => by
  cases hc : okAt L id k with
  | false => rfl
  | true =>
    obtain ⟨q, e⟩ := okAt_lt hc
    have := a.has (List.getElem_mem q)
    rw [e] at this
    exact absurd hn this
theorem Agree.yes (a : Agree h L) (hn : h id ≠ none) : ∀ k, AtK L id k → okAt L id k = true := fun k hk => by
  obtain ⟨s, hs, e⟩ := a.all id hn
  obtain ⟨j, hj, rfl⟩ := List.mem_iff_getElem.1 hs
  obtain ⟨k1, k2, k3⟩ := hk
  rcases Nat.lt_trichotomy j k with q | q | q
  · have := k2 j hj q; omega
  · subst q; unfold okAt; rw [List.getElem?_eq_getElem hj]; simp [e]
  · have a1 := k3 (by omega)
    have a2 := a.lt (i := k) (j := j) (by omega) hj q
    omega
theorem AtK.low (hk : AtK L id k) : ∀ s ∈ L.take k, s.id < id := fun s hs => by
  obtain ⟨i, hi, rfl⟩ := List.mem_take_iff_getElem.1 hs
  exact hk.2.1 i (by omega) (by omega)
theorem AtK.high (a : Agree h L) (hk : AtK L id k) : ∀ s ∈ L.drop k, id ≤ s.id := fun s hs => by
  obtain ⟨i, hi, rfl⟩ := List.mem_drop_iff_getElem.1 hs
  have a1 := hk.2.2 (by omega)
  rcases Nat.eq_zero_or_pos i with rfl | q
  · exact a1
  · have := a.lt (i := k) (j := k + i) (by omega) (by omega) (by omega); omega
theorem Agree.insert (a : Agree h L) (hk : AtK L id k) (hn : h id = none) (s : Slt) (hs : s.id = id) : Agree (upd h id (some (s.ver, s.vals))) (L.take k ++ s :: L.drop k) ∧ (L.take k ++ s :: L.drop k).length = L.length + 1 := by
  have lo := hk.low
  have hi := hk.high a
  have ne : ∀ t ∈ L, t.id ≠ id := fun t ht e => a.has ht (by rw [e]; exact hn)
  refine ⟨⟨?_, fun t ht => ?_, fun x hx => ?_⟩, by have := hk.1; simp; omega⟩
  · rw [List.map_append, List.map_cons, List.pairwise_append, List.pairwise_cons]
    refine ⟨List.Pairwise.sublist ((List.take_sublist k L).map _) a.sorted, ⟨fun y hy => ?_, List.Pairwise.sublist ((List.drop_sublist k L).map _) a.sorted⟩, fun x hx y hy => ?_⟩
    · obtain ⟨t, ht, rfl⟩ := List.mem_map.1 hy
      have := hi t ht
      have := ne t (List.mem_of_mem_drop ht)
      omega
    · obtain ⟨u, hu, rfl⟩ := List.mem_map.1 hx
      have a1 := lo u hu
      rcases List.mem_cons.1 hy with rfl | hy
      · omega
      · obtain ⟨t, ht, rfl⟩ := List.mem_map.1 hy
        have := hi t ht
        omega
  · rcases List.mem_append.1 ht with q | q
    · rw [upd_other _ _ (ne t (List.mem_of_mem_take q))]; exact a.each t (List.mem_of_mem_take q)
    · rcases List.mem_cons.1 q with rfl | q
      · rw [hs, upd_same]
      · rw [upd_other _ _ (ne t (List.mem_of_mem_drop q))]; exact a.each t (List.mem_of_mem_drop q)
  · by_cases e : x = id
    · exact ⟨s, by simp, by rw [hs, e]⟩
    · rw [upd_other _ _ e] at hx
      obtain ⟨t, ht, rfl⟩ := a.all x hx
      rw [← List.take_append_drop k L] at ht
      refine ⟨t, ?_, rfl⟩
      rcases List.mem_append.1 ht with q | q
      · exact List.mem_append.2 (.inl q)
      · exact List.mem_append.2 (.inr (List.mem_cons_of_mem _ q))
theorem Agree.erase (a : Agree h L) (hk : AtK L id k) (hn : h id ≠ none) : Agree (upd h id none) (L.take k ++ L.drop (k + 1)) ∧ (L.take k ++ L.drop (k + 1)).length = L.length - 1 := by
  obtain ⟨hlt, e⟩ := okAt_lt (a.yes hn k hk)
  have hd : L.drop k = L[k] :: L.drop (k + 1) := List.drop_eq_getElem_cons hlt
  have hsub : (L.take k ++ L.drop (k + 1)).Sublist L := by
    have := List.Sublist.append_left (List.sublist_cons_self L[k] (L.drop (k + 1))) (L.take k)
    rw [← hd, List.take_append_drop] at this
    exact this
  have ne : ∀ t ∈ L.take k ++ L.drop (k + 1), t.id ≠ id := fun t ht c => by
    rcases List.mem_append.1 ht with q | q
    · have := hk.low t q; omega
    · obtain ⟨i, hi, rfl⟩ := List.mem_drop_iff_getElem.1 q
      have := a.lt (i := k) (j := k + 1 + i) hlt (by omega) (by omega)
      omega
  refine ⟨⟨List.Pairwise.sublist (hsub.map _) a.sorted, fun t ht => ?_, fun x hx => ?_⟩, by simp; omega⟩
  · rw [upd_other _ _ (ne t ht)]; exact a.each t (hsub.subset ht)
  · by_cases c : x = id
    · rw [c, upd_same] at hx; exact absurd rfl hx
    · rw [upd_other _ _ c] at hx
      obtain ⟨t, ht, rfl⟩ := a.all x hx
      rw [← List.take_append_drop k L, hd] at ht
      refine ⟨t, ?_, rfl⟩
      rcases List.mem_append.1 ht with q | q
      · exact List.mem_append.2 (.inl q)
      · rcases List.mem_cons.1 q with rfl | q
        · exact absurd e c
        · exact List.mem_append.2 (.inr q)
theorem Agree.replace (a : Agree h L) (hk : AtK L id k) (hn : h id ≠ none) (s : Slt) (hs : s.id = id) : Agree (upd h id (some (s.ver, s.vals))) (L.set k s) := by
  obtain ⟨hlt, e⟩ := okAt_lt (a.yes hn k hk)
  have hm : (L.set k s).map Slt.id = L.map Slt.id := by
    rw [List.map_set, hs, ← e]
    have : L[k].id = (L.map Slt.id)[k]'(by simpa using hlt) := by simp
    rw [this, List.set_getElem_self]
  refine ⟨by rw [hm]; exact a.sorted, fun t ht => ?_, fun x hx => ?_⟩
  · obtain ⟨j, hj, rfl⟩ := List.mem_iff_getElem.1 ht
    rw [List.length_set] at hj
    rw [List.getElem_set]
    by_cases c : k = j
    · rw [if_pos c, hs, upd_same]
    · rw [if_neg c]
      have : L[j].id ≠ id := by
        rcases Nat.lt_or_gt_of_ne c with q | q
        · have := a.lt (i := k) (j := j) hlt hj q; omega
        · have := a.lt (i := j) (j := k) hj hlt q; omega
      rw [upd_other _ _ this]; exact a.each _ (List.getElem_mem hj)
  · have hx2 : x ∈ L.map Slt.id := by
      by_cases c : x = id
      · rw [c, ← e]; exact List.mem_map.2 ⟨_, List.getElem_mem hlt, rfl⟩
      · rw [upd_other _ _ c] at hx
        obtain ⟨t, ht, rfl⟩ := a.all x hx
        exact List.mem_map.2 ⟨t, ht, rfl⟩
    rw [← hm] at hx2
    obtain ⟨t, ht, e2⟩ := List.mem_map.1 hx2
    exact ⟨t, ht, e2⟩
theorem Agree.last (a : Agree h L) (h0 : 0 < L.length) : ∀ x, h x ≠ none → x ≤ L[L.length - 1].id := fun x hx => by
  obtain ⟨s, hs, rfl⟩ := a.all x hx
  obtain ⟨j, hj, rfl⟩ := List.mem_iff_getElem.1 hs
  rcases Nat.lt_or_ge j (L.length - 1) with q | q
  · have := a.lt (i := j) (j := L.length - 1) hj (by omega) q; omega
  · have : j = L.length - 1 := by omega
    subst this; exact Int.le_refl _
theorem sorted_eq9 : ∀ (a b : List Int), a.Pairwise (· < ·) → b.Pairwise (· < ·) → (∀ x, x ∈ a ↔ x ∈ b) → a = b
  | [], [], _, _, _ => rfl
  | [], y :: b, _, _, h => by have := (h y).2 (by simp); simp at this
  | x :: a, [], _, _, h => by have := (h x).1 (by simp); simp at this
  | x :: a, y :: b, pa, pb, h => by
    rw [List.pairwise_cons] at pa pb
    have e : x = y := by
      rcases List.mem_cons.1 ((h x).1 (by simp)) with q | q
      · exact q
      · rcases List.mem_cons.1 ((h y).2 (by simp)) with r | r
        · exact r.symm
        · have := pb.1 x q; have := pa.1 y r; omega
    subst e
    rw [sorted_eq9 a b pa.2 pb.2 (fun z => ⟨fun hz => by
      have a1 := pa.1 z hz
      rcases List.mem_cons.1 ((h z).1 (List.mem_cons_of_mem _ hz)) with q | q
      · omega
      · exact q, fun hz => by
      have a1 := pb.1 z hz
      rcases List.mem_cons.1 ((h z).2 (List.mem_cons_of_mem _ hz)) with q | q
      · omega
      · exact q⟩)]
theorem Agree.alike (a : Agree h R) (b : Agree h L) : Alike R L := by
  have e : R.map Slt.id = L.map Slt.id := sorted_eq9 _ _ a.sorted b.sorted (fun x => ⟨fun hx => by
    obtain ⟨s, hs, rfl⟩ := List.mem_map.1 hx
    obtain ⟨t, ht, e⟩ := b.all _ (a.has hs)
    exact List.mem_map.2 ⟨t, ht, e⟩, fun hx => by
    obtain ⟨s, hs, rfl⟩ := List.mem_map.1 hx
    obtain ⟨t, ht, e⟩ := a.all _ (b.has hs)
    exact List.mem_map.2 ⟨t, ht, e⟩⟩)
  have hl : R.length = L.length := by simpa using congrArg List.length e
  refine ⟨hl, fun i h1 h2 => ?_⟩
  have e1 : R[i].id = L[i].id := by
    have : (R.map Slt.id)[i]? = (L.map Slt.id)[i]? := by rw [e]
    simpa [List.getElem?_eq_getElem h1, List.getElem?_eq_getElem h2] using this
  have q1 := a.each _ (List.getElem_mem h1)
  have q2 := b.each _ (List.getElem_mem h2)
  rw [e1, q2] at q1
  injection q1 with q1
  injection q1 with q3 q4
  exact ⟨e1, q3.symm, q4.symm⟩
end
end Go.Proofs.Ytilpgojkbgbinaa
