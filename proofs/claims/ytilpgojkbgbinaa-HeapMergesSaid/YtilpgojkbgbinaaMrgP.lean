/- Plain: merging rows by a heap of their first items. -/
import Derived.Test.YtilpgojkbgbinaaSortP
set_option maxRecDepth 100000
set_option linter.unusedVariables false
set_option linter.unusedSimpArgs false
namespace Go.Proofs.Ytilpgojkbgbinaa
section
variable {α : Type} {lt : α → α → Bool}
/-- the items of rows, row by row -/
def itsR (L : List (List α)) : List (List (It α)) := L.mapIdx fun i r => itsF (i : Int) r
theorem itsR_length (L : List (List α)) : (itsR L).length = L.length := by simp [itsR]
theorem itsR_at (L : List (List α)) (i : Nat) (h : i < L.length) : (itsR L)[i]'(by rw [itsR_length]; exact h) = itsF (i : Int) L[i] := by simp [itsR]
theorem itsR_take (L : List (List α)) (k : Nat) (h : k < L.length) : (itsR L).take (k + 1) = (itsR L).take k ++ [itsF (k : Int) L[k]] := by
  rw [List.take_succ_eq_append_getElem (by rw [itsR_length]; exact h), itsR_at L k h]
/-- the first items of rows -/
def heads (R : List (List (It α))) : List (It α) := R.filterMap List.head?
theorem heads_append (R T : List (List (It α))) : heads (R ++ T) = heads R ++ heads T := by unfold heads; rw [List.filterMap_append]
theorem heads_cons (r : List (It α)) (T : List (List (It α))) : heads (r :: T) = r.head?.toList ++ heads T := by
  unfold heads; rw [List.filterMap_cons]; cases r.head? <;> rfl
theorem heads_step (L : List (List α)) (k : Nat) (h : k < L.length) : heads ((itsR L).take (k + 1)) = heads ((itsR L).take k) ++ (match L[k] with | [] => [] | v :: _ => [⟨v, (k : Int), 0⟩]) := by
  rw [itsR_take L k h, heads_append, heads_cons]
  congr 1
  cases L[k] with
  | nil => rfl
  | cons v r => simp [itsF, heads]
theorem heads_length_le (R : List (List (It α))) : (heads R).length ≤ R.length := List.length_filterMap_le _ _
theorem heads_nil (R : List (List (It α))) (h : heads R = []) : R.flatten = [] := by
  unfold heads at h
  rw [List.filterMap_eq_nil_iff] at h
  rw [List.flatten_eq_nil_iff]
  intro r hr
  have := h r hr
  cases r with
  | nil => rfl
  | cons a t => cases this
/-- what a merge has told, what is left of each row, what its heap holds -/
structure Mid (lt : α → α → Bool) (L : List (List α)) (D : List (It α)) (R : List (List (It α))) (H : List (It α)) : Prop where
  len : R.length = L.length
  row : ∀ i (h : i < L.length) (h2 : i < R.length), ∃ k, R[i] = (itsF (i : Int) L[i]).drop k
  heap : H.Perm (heads R)
  all : (D ++ R.flatten).Perm (itsR L).flatten
  inord : ∀ S : List (It α), S.Perm (itsR L).flatten → Sorted (ltS lt) S → (∀ r ∈ L, r.Pairwise (le lt)) → D = S.take D.length
theorem mid_start (L : List (List α)) (H : List (It α)) (h : H.Perm (heads (itsR L))) : Mid lt L [] (itsR L) H :=
  ⟨itsR_length L, fun i h h2 => ⟨0, by rw [itsR_at L i h]; simp⟩, h, by simp, fun S _ _ _ => by simp⟩
theorem itsF_sorted (h : Swo lt) (li : Int) (r : List α) (hr : r.Pairwise (le lt)) : Sorted (ltS lt) (itsF li r) := by
  unfold Sorted
  rw [List.pairwise_iff_getElem] at hr ⊢
  intro i j hi hj hij
  rw [itsF_at, itsF_at, ltS_iff]
  rw [itsF_length] at hi hj
  have := hr i j hi hj hij
  unfold le at this
  cases hl : lt r[i] r[j]
  · right; exact ⟨this, .inr ⟨rfl, by simp only; omega⟩⟩
  · exact .inl rfl
/-- one popped: whose it was, what is left -/
theorem mid_pop (h : Swo lt) (d : It α) {L : List (List α)} {D H : List (It α)} {R : List (List (It α))} (M : Mid lt L D R H) (hH : IsHeap (ltS lt) d H) (hl : 0 < H.length) :
    ∃ (j k : Nat) (hj : j < L.length) (hk : k < L[j].length), nth d H 0 = ⟨L[j][k], (j : Int), (k : Int)⟩ ∧
      (∀ (hk2 : k + 1 < L[j].length) (H' : List (It α)), H'.Perm (⟨L[j][k + 1], (j : Int), ((k + 1 : Nat) : Int)⟩ :: (popL (ltS lt) d H).take (H.length - 1)) → Mid lt L (D ++ [nth d H 0]) (R.set j ((itsF (j : Int) L[j]).drop (k + 1))) H') ∧
      (L[j].length ≤ k + 1 → Mid lt L (D ++ [nth d H 0]) (R.set j ((itsF (j : Int) L[j]).drop (k + 1))) ((popL (ltS lt) d H).take (H.length - 1))) := by
  have P := pop_law (ltS_swo h) d H hl hH
  have hx : nth d H 0 ∈ heads R := M.heap.mem_iff.1 (P.1.mem_iff.1 (List.mem_cons_self ..))
  unfold heads at hx
  rw [List.mem_filterMap] at hx
  obtain ⟨r, hr, hrx⟩ := hx
  obtain ⟨j, hjR, rfl⟩ := List.getElem_of_mem hr
  have hj : j < L.length := by rw [← M.len]; exact hjR
  obtain ⟨k, hk⟩ := M.row j hj hjR
  have hkl : k < L[j].length := by
    rcases Nat.lt_or_ge k L[j].length with q | q
    · exact q
    · rw [hk, List.drop_eq_nil_of_le (by rw [itsF_length]; exact q)] at hrx; cases hrx
  have hkl' : k < (itsF (j : Int) L[j]).length := by rw [itsF_length]; exact hkl
  have hcons : R[j] = (itsF (j : Int) L[j])[k] :: (itsF (j : Int) L[j]).drop (k + 1) := by rw [hk]; exact List.drop_eq_getElem_cons hkl'
  rw [itsF_at] at hcons
  have hxe : nth d H 0 = ⟨L[j][k], (j : Int), (k : Int)⟩ := by rw [hcons] at hrx; injection hrx with hrx; exact hrx.symm
  generalize hT : (itsF (j : Int) L[j]).drop (k + 1) = T at *
  -- the rows, parted at j
  have hR : R = R.take j ++ (nth d H 0 :: T) :: R.drop (j + 1) := by
    conv => lhs; rw [← List.take_append_drop j R]
    rw [List.drop_eq_getElem_cons hjR, hcons, hxe]
  have hR' : R.set j T = R.take j ++ T :: R.drop (j + 1) := by rw [List.set_eq_take_append_cons_drop, if_pos hjR]
  have hheads : (heads R).Perm (nth d H 0 :: (heads (R.take j) ++ heads (R.drop (j + 1)))) := by
    conv => lhs; rw [hR]
    rw [heads_append, heads_cons]
    exact List.perm_middle
  have hleft : ((popL (ltS lt) d H).take (H.length - 1)).Perm (heads (R.take j) ++ heads (R.drop (j + 1))) :=
    (List.perm_cons _).1 ((P.1.trans M.heap).trans hheads)
  have hflat : (D ++ [nth d H 0] ++ (R.set j T).flatten).Perm (D ++ R.flatten) := by
    rw [List.append_assoc]
    refine List.Perm.append_left D ?_
    rw [hR']
    conv => rhs; rw [hR]
    simp only [List.flatten_append, List.flatten_cons, List.cons_append, List.nil_append, List.append_assoc]
    exact List.perm_middle.symm
  have hin : ∀ S : List (It α), S.Perm (itsR L).flatten → Sorted (ltS lt) S → (∀ r ∈ L, r.Pairwise (le lt)) → D ++ [nth d H 0] = S.take (D ++ [nth d H 0]).length := fun S hS hs hsort => by
    have hD := M.inord S hS hs hsort
    have hSl : S.length = D.length + R.flatten.length := by rw [hS.length_eq, ← M.all.length_eq, List.length_append]
    have hrest : R.flatten.Perm (S.drop D.length) := by
      have h1 : (D ++ R.flatten).Perm (D ++ S.drop D.length) := by
        have e : D ++ S.drop D.length = S := by
          conv => lhs; rw [hD]
          rw [List.length_take, Nat.min_eq_left (by omega)]
          exact List.take_append_drop _ S
        rw [e]; exact M.all.trans hS.symm
      exact (List.perm_append_left_iff D).1 h1
    have hxm : nth d H 0 ∈ R.flatten := by rw [List.mem_flatten]; exact ⟨R[j], List.getElem_mem hjR, by rw [hcons, hxe]; exact List.mem_cons_self ..⟩
    have hdl : D.length < S.length := by
      have := List.length_pos_of_mem hxm
      omega
    have hSd := List.drop_eq_getElem_cons hdl
    have hsd := hs.drop D.length
    rw [hSd] at hsd hrest
    have hfirst := (List.pairwise_cons.1 hsd).1
    -- the least of what is left is a head
    have hy : S[D.length] ∈ R.flatten := hrest.mem_iff.2 (List.mem_cons_self ..)
    rw [List.mem_flatten] at hy
    obtain ⟨r, hr, hyr⟩ := hy
    obtain ⟨i, hiR, rfl⟩ := List.getElem_of_mem hr
    have hi : i < L.length := by rw [← M.len]; exact hiR
    obtain ⟨k', hk'⟩ := M.row i hi hiR
    have hrs : Sorted (ltS lt) R[i] := by rw [hk']; exact (itsF_sorted h _ _ (hsort _ (List.getElem_mem hi))).drop k'
    have hhead : S[D.length] ∈ heads R := by
      cases hri : R[i] with
      | nil => rw [hri] at hyr; cases hyr
      | cons a t =>
        rw [hri] at hyr hrs
        have ha : a ∈ R.flatten := by rw [List.mem_flatten]; exact ⟨R[i], List.getElem_mem hiR, by rw [hri]; exact List.mem_cons_self ..⟩
        have hae : a = S[D.length] := by
          rcases List.mem_cons.1 (hrest.mem_iff.1 ha) with q | q
          · exact q
          · have h1 := hfirst a q
            rcases List.mem_cons.1 hyr with q2 | q2
            · exact q2.symm
            · have h2 := (List.pairwise_cons.1 hrs).1 _ q2
              rw [(ltS_swo h).asym _ _ h2] at h1; cases h1
        unfold heads
        rw [List.mem_filterMap]
        exact ⟨R[i], List.getElem_mem hiR, by rw [hri, ← hae]; rfl⟩
    have hle := P.2.1 _ (M.heap.mem_iff.2 hhead)
    have hxy : nth d H 0 = S[D.length] := by
      rcases List.mem_cons.1 (hrest.mem_iff.1 hxm) with q | q
      · exact q
      · have := hfirst _ q
        unfold le at hle
        rw [hle] at this; cases this
    rw [List.length_append, List.length_singleton, List.take_succ_eq_append_getElem hdl, ← hD, hxy]
  have hlen : (R.set j T).length = L.length := by rw [List.length_set]; exact M.len
  have hrow : ∀ i (h : i < L.length) (h2 : i < (R.set j T).length), ∃ k, (R.set j T)[i] = (itsF (i : Int) L[i]).drop k := fun i hi h2 => by
    rw [List.getElem_set]
    by_cases hji : j = i
    · subst hji; rw [if_pos rfl]; exact ⟨k + 1, hT.symm⟩
    · rw [if_neg hji]; exact M.row i hi (by rw [List.length_set] at h2; exact h2)
  refine ⟨j, k, hj, hkl, hxe, fun hk2 H' hH' => ?_, fun hk2 => ?_⟩
  · rw [hT]
    refine ⟨hlen, hrow, ?_, hflat.trans M.all, hin⟩
    refine hH'.trans ?_
    have e : T = ⟨L[j][k + 1], (j : Int), ((k + 1 : Nat) : Int)⟩ :: (itsF (j : Int) L[j]).drop (k + 2) := by
      rw [← hT, List.drop_eq_getElem_cons (by rw [itsF_length]; exact hk2), itsF_at]
    rw [hR', heads_append, heads_cons, e]
    exact (hleft.cons _).trans List.perm_middle.symm
  · rw [hT]
    refine ⟨hlen, hrow, ?_, hflat.trans M.all, hin⟩
    have e : T = [] := by rw [← hT]; exact List.drop_eq_nil_of_le (by rw [itsF_length]; exact hk2)
    rw [hR', heads_append, heads_cons, e]
    exact hleft
theorem mid_end {L : List (List α)} {D H : List (It α)} {R : List (List (It α))} (M : Mid lt L D R H) (hl : H.length = 0) :
    D.Perm (itsR L).flatten ∧ (∀ S : List (It α), S.Perm (itsR L).flatten → Sorted (ltS lt) S → (∀ r ∈ L, r.Pairwise (le lt)) → D = S) := by
  have e : heads R = [] := by
    have := M.heap.length_eq
    rw [hl] at this
    exact List.eq_nil_of_length_eq_zero this.symm
  have hp : D.Perm (itsR L).flatten := by
    have := M.all
    rwa [heads_nil R e, List.append_nil] at this
  refine ⟨hp, fun S hS hs hsort => ?_⟩
  rw [M.inord S hS hs hsort, List.take_of_length_le (by rw [hS.length_eq, hp.length_eq]; exact Nat.le_refl _)]
theorem itsR_ex (h : Swo lt) (L : List (List α)) : ∃ S, S.Perm (itsR L).flatten ∧ Sorted (ltS lt) S := by
  refine sorted_ex (ltS_swo h) _ ?_
  have hp : (itsR L).flatten.Pairwise (fun x y => x.li ≠ y.li ∨ x.at_ ≠ y.at_) := by
    rw [List.pairwise_flatten]
    constructor
    · intro r hr
      obtain ⟨i, hi, rfl⟩ := List.getElem_of_mem hr
      rw [itsR_length] at hi
      rw [itsR_at L i hi]
      exact (itsF_apart _ _).imp fun {x y} hxy => .inr (by omega)
    · rw [List.pairwise_iff_getElem]
      intro i j hi hj hij x hx y hy
      rw [itsR_length] at hi hj
      rw [itsR_at L i hi] at hx
      rw [itsR_at L j hj] at hy
      left
      rw [itsF_li _ _ x hx, itsF_li _ _ y hy]
      omega
  exact hp.imp fun {x y} hxy => ltS_tot h x y hxy
theorem itsR_vals (L : List (List α)) : (itsR L).flatten.map (·.v) = L.flatten := by
  rw [List.map_flatten]
  congr 1
  apply List.ext_getElem (by simp [itsR_length])
  intro i h1 h2
  rw [List.getElem_map, itsR_at L i h2, itsF_map]
end
end Go.Proofs.Ytilpgojkbgbinaa
