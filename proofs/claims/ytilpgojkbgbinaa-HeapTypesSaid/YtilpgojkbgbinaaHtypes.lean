/- HeapTypes: texts by their lengths, the longest ones first: the same, of another type. -/
import Derived.Test.YtilpgojkbgbinaaSrt
import Derived.Test.YtilpgojkbgbinaaApp
import Derived.Deep.OwnRows
set_option maxRecDepth 100000
set_option linter.unusedVariables false
set_option linter.unusedSimpArgs false
namespace Go.Proofs.Ytilpgojkbgbinaa
open Go.RowKit
attribute [local go_sem] run_frombits run_tobits more_more more_drew more_drewN more_size more_cell more_frozen run_store_float lt_c1 le_c1 lt_s1 le_s1 lt_c2 le_c2 lt_s2 le_s2 lt_c3 le_c3 lt_s3 le_s3 lt_c4 le_c4 lt_s4 le_s4 lt_c5 le_c5 lt_s5 le_s5 lt_c6 le_c6 lt_s6 le_s6 lt_c7 le_c7 lt_s7 le_s7 lt_c8 le_c8 lt_s8 le_s8 lt_c9 le_c9 lt_s9 le_s9 lt_c10 le_c10 lt_s10 le_s10 lt_c11 le_c11 lt_s11 le_s11 lt_c12 le_c12 lt_s12 le_s12 le_c0
def ltStr (a b : ByteArray) : Bool := decide (b.size < a.size)
theorem ltStr_swo : Swo ltStr := ⟨fun a b h => by unfold ltStr at *; simp at *; omega, fun a b c h1 h2 => by unfold ltStr at *; simp at *; omega⟩
theorem tells_types1 : Tells (fun n : ByteArray => .string n) ltStr 51 #[] [] := by
  refine ⟨enters Try.func51 (by kernel_rfl) rfl, fun W x y _ => ?_⟩
  show Gives _ _ #[.string x, .string y] W _
  unfold ltStr
  go_enter Try.func51, Try.ntmps51
  go_wp2
  go_ret
  exact ⟨rfl, (more_of_below (by repeat (first | (with_reducible exact Below.refl _ _) | (with_reducible refine Below.drew ?_) | (with_reducible refine Below.alloc ?_ (by simp [more_size]; try omega) _) | (with_reducible refine Below.setCell ?_ (by simp [more_size]; try omega) _) | (with_reducible refine below_more ?_ _ (by simp [more_size]; try omega)))))⟩
theorem tells_types2 : Tells (fun n : ByteArray => .string n) ltStr 53 #[] [] := by
  refine ⟨enters Try.func53 (by kernel_rfl) rfl, fun W x y _ => ?_⟩
  show Gives _ _ #[.string x, .string y] W _
  unfold ltStr
  go_enter Try.func53, Try.ntmps53
  go_wp2
  go_ret
  exact ⟨rfl, (more_of_below (by repeat (first | (with_reducible exact Below.refl _ _) | (with_reducible refine Below.drew ?_) | (with_reducible refine Below.alloc ?_ (by simp [more_size]; try omega) _) | (with_reducible refine Below.setCell ?_ (by simp [more_size]; try omega) _) | (with_reducible refine below_more ?_ _ (by simp [more_size]; try omega)))))⟩
/-- which places have been told -/
def UsedIs (S : List (It ByteArray)) (i : Nat) (U : List Bool) : Prop := ∀ j : Nat, U[j]? = some true ↔ ∃ q x, q < i ∧ S[q]? = some x ∧ x.at_ = (j : Int)
section
variable {l : List ByteArray} {S : List (It ByteArray)} {U : List Bool} {i : Nat}
theorem its_mem (hp : S.Perm (itsF 0 l)) {x : It ByteArray} (hx : x ∈ S) : ∃ (k : Nat) (h : k < l.length), x = ⟨l[k], 0, (k : Int)⟩ := by
  obtain ⟨k, hk, e⟩ := List.getElem_of_mem (hp.mem_iff.1 hx)
  rw [itsF_at] at e
  exact ⟨k, by rw [itsF_length] at hk; exact hk, e.symm⟩
theorem its_nd (hp : S.Perm (itsF 0 l)) : S.Pairwise (fun x y => x.at_ ≠ y.at_) :=
  (hp.pairwise_iff (fun {x y} h => Ne.symm h)).2 ((itsF_apart 0 l).imp fun {x y} h => by omega)
theorem its_same (hp : S.Perm (itsF 0 l)) {a b : Nat} (ha : a < S.length) (hb : b < S.length) (e : S[a].at_ = S[b].at_) : a = b := by
  have := List.pairwise_iff_getElem.1 (its_nd hp)
  rcases Nat.lt_trichotomy a b with h | h | h
  · exact absurd e (this a b ha hb h)
  · exact h
  · exact absurd e.symm (this b a hb ha h)
theorem used_next (hp : S.Perm (itsF 0 l)) (hs : Sorted (ltS ltStr) S) (hi : i < S.length) (hU : UsedIs S i U) (hUl : U.length = l.length) :
    ∃ p : Nat, ∃ hpl : p < l.length, S[i].at_ = (p : Int) ∧ l[p] = S[i].v ∧ U[p]? = some false ∧ (∀ j (h : j < l.length), j < p → U[j]? = some false → l[j].size ≠ S[i].v.size) ∧ UsedIs S (i + 1) (U.set p true) := by
  obtain ⟨p, hpl, e⟩ := its_mem hp (List.getElem_mem hi)
  have hat : S[i].at_ = (p : Int) := by rw [e]
  have hv : S[i].v = l[p] := by rw [e]
  have hnot : U[p]? ≠ some true := fun h => by
    obtain ⟨q, x, hq, hx, hxa⟩ := (hU p).1 h
    obtain ⟨hq2, rfl⟩ := List.getElem?_eq_some_iff.1 hx
    have := its_same hp hq2 hi (by rw [hxa, hat])
    omega
  have hpU : p < U.length := by omega
  have hpf : U[p]? = some false := by
    rw [List.getElem?_eq_getElem hpU] at hnot ⊢
    cases h : U[p]
    · rfl
    · rw [h] at hnot; exact absurd rfl hnot
  refine ⟨p, hpl, hat, hv.symm, hpf, fun j hj hjp hjf hsz => ?_, fun j => ?_⟩
  · -- the item at j would stand ahead
    have hx : (⟨l[j], 0, (j : Int)⟩ : It ByteArray) ∈ S := hp.mem_iff.2 (by
      rw [List.mem_iff_getElem]
      exact ⟨j, by rw [itsF_length]; exact hj, itsF_at 0 l j _⟩)
    obtain ⟨q, hq, hqx⟩ := List.getElem_of_mem hx
    have hlt : ltS ltStr S[q] S[i] = true := by
      rw [hqx, ltS_iff]
      right
      refine ⟨?_, .inr ⟨?_, ?_⟩⟩
      · unfold ltStr; rw [decide_eq_false_iff_not]; simp only; omega
      · rw [e]
      · rw [hat]; simp only; omega
    have hqi : q < i := by
      rcases Nat.lt_trichotomy q i with h | h | h
      · exact h
      · subst h; rw [hqx] at hat; simp only at hat; omega
      · have h2 := List.pairwise_iff_getElem.1 hs i q hi hq h
        have h3 := (ltS_swo ltStr_swo).asym _ _ h2
        rw [hlt] at h3; cases h3
    have : U[j]? = some true := (hU j).2 ⟨q, _, hqi, by rw [List.getElem?_eq_getElem hq, hqx], rfl⟩
    rw [this] at hjf; cases hjf
  · rw [List.getElem?_set]
    by_cases hpj : p = j
    · subst hpj
      rw [if_pos rfl, if_pos hpU]
      exact ⟨fun _ => ⟨i, S[i], by omega, List.getElem?_eq_getElem hi, hat⟩, fun _ => rfl⟩
    · rw [if_neg hpj, hU j]
      constructor
      · rintro ⟨q, x, hq, hx, hxa⟩; exact ⟨q, x, by omega, hx, hxa⟩
      · rintro ⟨q, x, hq, hx, hxa⟩
        rcases Nat.lt_or_ge q i with h | h
        · exact ⟨q, x, h, hx, hxa⟩
        · have : q = i := by omega
          subst this
          rw [List.getElem?_eq_getElem hi] at hx
          injection hx with hx
          rw [← hx, hat] at hxa
          omega
theorem used_none (N : Nat) : UsedIs S 0 (List.replicate N false) := fun j => by
  rw [List.getElem?_replicate]
  constructor
  · intro h; split at h <;> cases h
  · rintro ⟨q, x, hq, _⟩; omega
end
theorem info_bool : (Try.prog.info? 4).map (fun i => (i.zero, i.size, i.bytes)) = some (some (.bool false), 1, 1) := by kernel_rfl
theorem made_bools (N : Nat) : madeCells #[.bool false] N = ((List.replicate N false).map Value.bool).toArray := by
  unfold madeCells
  apply Array.ext_getElem?
  intro j
  simp [List.getElem?_replicate]
  rcases Nat.lt_or_ge j N with h | h
  · simp [h, Nat.mod_one]
  · simp [Nat.not_lt.2 h]
theorem str_cell (l : List ByteArray) (i : Nat) (h : i < l.length) : (rowC strC l)[i]? = some (.string l[i]) := by
  have := rowC_get strC_len l i 0 h (by omega); rw [Nat.mul_one, Nat.add_zero] at this; rw [this]; rfl
/-- a row of texts, read behind a world that has grown, by whatever more -/
theorem row_str {w2 W : World} {A : Option Addr} {l : List ByteArray} {j : Nat} {s : ByteArray} (h : RowIn strC 1 w2 A l) (hB : Below w2.heap.size w2 W) (hs : l[j]? = some s) :
    ∃ b off, A = some ⟨b, off, none⟩ ∧ ∀ y, (more W y).cell? ⟨b, off + j, none⟩ = some (.string s) := by
  obtain ⟨hj, rfl⟩ := List.getElem?_eq_some_iff.1 hs
  obtain ⟨b, off, e, hb, hc⟩ := h j hj
  refine ⟨b, off, e, fun y => ?_⟩
  have := hc j hj 0 _ rfl
  rw [Nat.add_zero, Nat.mul_one] at this
  exact ((below_more hB y hB.size).cell (p := ⟨b, off + j, none⟩) hb).trans this
set_option maxHeartbeats 8000000 in
theorem walk_HeapTypes (A : Option Addr) (ca : Nat) (l : List ByteArray) (n : Int) (n1 : -9223372036854775808 ≤ n) (n2 : n < 9223372036854775808) (w : World) (la : l.length ≤ 9223372036854775807) (hca : l.length ≤ ca) (hl : ∀ x ∈ l, x.size ≤ 9223372036854775807) (ha : RowIn strC 1 w A l) :
    Calls Try.prog 9 #[.slice A l.length ca, .int .i64 n] w fun e w' => e = .returned (.bool true) ∧ ∃ x, w' = more w x := by
  rcases Nat.lt_or_ge 60 l.length with h60 | h60
  · have h1 : (60 : Int) < (l.length : Int) := by omega
    clear hl
    go_enter Try.func9, Try.ntmps9
    go_wp2_with fail
    refine (known8 _).mono' ?_; intro x
    go_wp2
    go_ret
    exact ⟨rfl, (more_of_below (by repeat (first | (with_reducible exact Below.refl _ _) | (with_reducible refine Below.drew ?_) | (with_reducible refine Below.alloc ?_ (by simp [more_size]; try omega) _) | (with_reducible refine Below.setCell ?_ (by simp [more_size]; try omega) _) | (with_reducible refine below_more ?_ _ (by simp [more_size]; try omega)))))⟩
  · have h1 : (l.length : Int) ≤ 60 := by omega
    obtain ⟨S, hS1, hS2⟩ := its_ex ltStr_swo 0 l
    have hSl : S.length = l.length := by rw [hS1.length_eq, itsF_length]
    have ST := Lib.hid (fun W h => sort_It2 ltStr_swo tells_types1 A ca l W (by omega) h S hS1 hS2)
    have LS := Lib.hid (fun W h => least_It2 ltStr_swo tells_types2 A ca l n W (by omega) h S hS1 hS2)
    have hcell := Lib.hid (fun y i s (hs : l[i]? = some s) => (by
      obtain ⟨hi, rfl⟩ := List.getElem?_eq_some_iff.1 hs
      obtain ⟨b, off, e, hb, hc⟩ := ha i hi
      exact (⟨b, off, e, by have := (more_cell w y _ hb).trans (hc i hi 0 _ rfl); rwa [Nat.add_zero, Nat.mul_one] at this⟩) : ∃ b off, A = some ⟨b, off, none⟩ ∧ (more w y).cell? ⟨b, off + i, none⟩ = some (.string s)))
    have hA := Lib.hid ha
    have hN2 : l.length ≤ 60 := h60
    generalize hN : l.length = N at *
    replace hN := Lib.hid hN
    replace hS1 := Lib.hid hS1
    replace hS2 := Lib.hid hS2
    clear la ha
    go_enter Try.func9, Try.ntmps9
    go_wp2_with fail
    refine (known8 _).mono' ?_; intro x
    go_wp2
    go_loop [5] (fun t => ∃ k : Nat, t = .int .i64 k ∧ k ≤ N) (fun t => N - (intOf t).toNat)
    case atStart => exact ⟨0, rfl, Nat.zero_le _⟩
    case round =>
      obtain ⟨k, rfl, hk⟩ := hrel
      rcases Nat.lt_or_ge k N with hkN | hkN
      · obtain ⟨s, hs⟩ : ∃ s, l[k]? = some s := ⟨_, List.getElem?_eq_getElem (by have := hN.out; omega)⟩
        obtain ⟨b, off, rfl, hc⟩ := hcell.out x k s hs
        have hkN' : (k : Int) < (N : Int) := by omega
        have hsz := hl s (List.mem_of_getElem? hs)
        clear hs
        by_cases h : (60 : Int) < (s.size : Int)
        · go_wp2
          go_ret
          exact ⟨rfl, (more_of_below (by repeat (first | (with_reducible exact Below.refl _ _) | (with_reducible refine Below.drew ?_) | (with_reducible refine Below.alloc ?_ (by simp [more_size]; try omega) _) | (with_reducible refine Below.setCell ?_ (by simp [more_size]; try omega) _) | (with_reducible refine below_more ?_ _ (by simp [more_size]; try omega)))))⟩
        · go_wp2
          exact ⟨⟨k + 1, by go_num, by omega⟩, by simp [intOf]; omega⟩
      · obtain rfl : k = N := by omega
        have hA1 := hA.out.more x
        go_wp2_with fail
        refine (ST.out _ hA1).mono ?_
        rintro e w1 ⟨v1, rfl, own1, bel1⟩
        have hmS : (S.map (·.v)).length = k := by rw [List.length_map]; exact hSl
        obtain ⟨A1, c1, rfl, q1, q2, hs1, q3⟩ := own_row strC_len hmS own1
        have hA2 := hA1.below bel1
        have hB1 := Lib.hid ((more_below w x).trans (bel1.mono (by rw [more_size]; omega)))
        replace hs1 := Lib.hid hs1
        clear own1 ST
        go_wp2_with fail
        refine (LS.out _ hA2).mono ?_
        rintro e w2 ⟨v2, rfl, own2, bel2⟩
        obtain ⟨K, hK⟩ : ∃ K, K = min n.toNat k := ⟨_, rfl⟩
        rw [← hK] at own2
        have hmT : ((S.take n.toNat).map (·.v)).length = K := by rw [List.length_map, List.length_take, hSl, hK]
        obtain ⟨A2, c2, rfl, q4, q5, ht2, q6⟩ := own_row strC_len hmT own2
        have hA3 := Lib.hid (hA2.below bel2)
        have hs2 := Lib.hid (hs1.out.below bel2)
        have hB2 := Lib.hid (hB1.out.trans (bel2.mono hB1.out.size))
        replace ht2 := Lib.hid ht2
        obtain ⟨m, hm⟩ : ∃ m : Int, (if (k : Int) < n then (k : Int) else n) = m := ⟨_, rfl⟩
        have hmm : (if (0 : Int) < m then m else 0) = (K : Int) := by
          subst hm; split <;> split <;> omega
        have hKk : K ≤ k := by omega
        have hmk := run_make_row' 44 4 (.bool false) 1 Try.underlying44 info_bool rfl .i64 .i64 k (by omega) (by omega)
        rw [made_bools] at hmk
        replace hK := Lib.hid hK
        replace hmS := Lib.hid hmS
        replace hmT := Lib.hid hmT
        replace hSl := Lib.hid hSl
        clear own2 hs1 LS hB1 bel1 bel2 hA1 hA2 hcell
        replace hl := Lib.hid hl
        obtain ⟨g, hg⟩ : ∃ g, g = w2.heap.size := ⟨_, rfl⟩
        have hblk := Lib.hid (show Blk (w2.alloc (.cells (Array.replicate k (.bool false)) 4)) g ((List.replicate k false).map Value.bool).toArray 4 from by
          rw [← made_bools, show madeCells #[.bool false] k = Array.replicate k (.bool false) by rw [made_bools]; simp]
          exact Blk.new _ _ _ hg)
        have hbel := Lib.hid (show Below w2.heap.size w2 (w2.alloc (.cells (Array.replicate k (.bool false)) 4)) from Below.alloc (Below.refl _ _) (Nat.le_refl _) _)
        have hq3 : 0 < k → A1 ≠ none := fun h e => by have := q3 e; omega
        go_wp2
        rw [← hg]
        replace hg := Lib.hid hg
        go_loopw [9, 10, 11] (fun t9 t10 t11 wr => ∃ (i : Nat) (U : List Bool), t9 = .int .i64 i ∧ i ≤ k ∧ Hid (UsedIs S i U) ∧ Hid (U.length = k) ∧ Hid (Blk wr g (U.map Value.bool).toArray 4) ∧ Hid (Below w2.heap.size w2 wr)) (fun t _ _ _ => k - (intOf t).toNat)
        case atStart => exact ⟨0, List.replicate k false, rfl, Nat.zero_le _, Lib.hid (used_none k), Lib.hid (by simp), hblk, hbel⟩
        case round =>
          obtain ⟨i, U, rfl, hik, hU, hUl, hBk, hBW⟩ := hrel
          clear hblk hbel hmk hm hmm
          rcases Nat.lt_or_ge i k with hil | hil
          · have hil' : (i : Int) < (k : Int) := by omega
            obtain ⟨p, hpl, hat, hv, hpf, hno, hnext⟩ := used_next hS1.out hS2.out (by have := hSl.out; omega) hU.out (by rw [hUl.out, hN.out])
            have hSi : S[i]? = some (S[i]'(by have := hSl.out; omega)) := List.getElem?_eq_getElem _
            have hprev : 0 < i → ∃ x', (S.map (·.v))[i - 1]? = some x' ∧ ¬ x'.size < (S[i]'(by have := hSl.out; omega)).v.size := fun h => by
              have h1 : i - 1 < S.length := by have := hSl.out; omega
              refine ⟨S[i - 1].v, by rw [List.getElem?_map, List.getElem?_eq_getElem h1]; rfl, ?_⟩
              have h2 := List.pairwise_iff_getElem.1 hS2.out (i - 1) i h1 (by have := hSl.out; omega) (by omega)
              rw [ltS_iff] at h2
              unfold ltStr at h2
              simp only [decide_eq_true_eq, decide_eq_false_iff_not] at h2
              omega
            have hsx : (S.map (·.v))[i]? = some (S[i]'(by have := hSl.out; omega)).v := by rw [List.getElem?_map, hSi]; rfl
            have htx : i < K → ((S.take n.toNat).map (·.v))[i]? = some (S[i]'(by have := hSl.out; omega)).v := fun h => by
              rw [List.getElem?_map, List.getElem?_take_of_lt (by have := hK.out; omega), hSi]; rfl
            have hlx : l[p]? = some (S[i]'(by have := hSl.out; omega)).v := by rw [List.getElem?_eq_getElem hpl, hv]
            have hpk : p < k := by have := hN.out; omega
            generalize (S[i]'(by have := hSl.out; omega)).v = x at *
            clear hat hSi hv
            obtain ⟨b1, o1, e1, cs⟩ := row_str hs2.out hBW.out hsx
            obtain ⟨b0, o0, e0, cl⟩ := row_str hA3.out hBW.out hlx
            subst e1 e0
            have hxs : x.size ≤ 9223372036854775807 := hl.out x (List.mem_of_getElem? hlx)
            replace hlx := Lib.hid hlx
            replace hno := Lib.hid hno
            replace hnext := Lib.hid hnext
            replace hpf := Lib.hid hpf
            replace hsx := Lib.hid hsx
            rcases Nat.eq_zero_or_pos i with hi0 | hi0
            · have hi00 : ¬ ((0 : Int) < (i : Int)) := by omega
              have hi01 : ¬ (0 < i) := by omega
              clear hprev hi0
              rcases Nat.lt_or_ge i K with hiK | hiK
              · obtain ⟨b2, o2, e2, ct⟩ := row_str ht2.out hBW.out (htx hiK)
                subst e2
                have hiK' : (i : Int) < (K : Int) := by omega
                clear htx
                go_wp2_with fail
                refine wp_region_more (by kernel_rfl) (by kernel_rfl) ?_
                repeat (go_big_quiet_step (fail))
                refine wpQuiet_nil ?_
                rintro _ ⟨y0, rfl⟩
                go_wp2
                go_loopw [10, 11] (fun t10 t11 wr3 => ∃ (q : Nat) (ao : Int) (y : Ext), t11 = .int .i64 ((q : Int) - 1) ∧ t10 = .int .i64 ao ∧ q ≤ k ∧ Hid (q ≤ p → ao = (p : Int)) ∧ wr3 = more wr y) (fun _ t _ => (intOf t + 1).toNat)
                case atStart => exact ⟨k, -1, y0, rfl, rfl, Nat.le_refl _, Lib.hid (fun h => by omega), rfl⟩
                case round =>
                  obtain ⟨q, ao, y, e11, rfl, hq, hao, rfl⟩ := hrel
                  rcases Nat.eq_zero_or_pos q with hq0 | hq0
                  · subst hq0
                    subst e11
                    obtain rfl : ao = (p : Int) := hao.out (Nat.zero_le _)
                    have hp0 : ((p : Int) < 0) = False := eq_false (by omega)
                    have hpk' : (p : Int) < (k : Int) := by omega
                    have hUp : p < U.length := by have := hUl.out; omega
                    have cu := fun y => (show (more wr y).cell? ⟨g, p, none⟩ = some (.bool false) from by
                      rw [(hBk.out.more y).cell p]; simp [hpf.out])
                    have fu := fun y => (show (more wr y).frozen? ⟨g, p, none⟩ = false from (hBk.out.more y).free p)
                    have hfin := Lib.hid (fun y => (show Blk ((more wr y).setCell ⟨g, p, none⟩ (.bool true)) g ((U.set p true).map Value.bool).toArray 4 from by
                      have := (hBk.out.more y).set p (.bool true)
                      rwa [show ((U.map Value.bool).toArray.setIfInBounds p (.bool true)) = ((U.set p true).map Value.bool).toArray by simp [List.map_set]] at this))
                    have hfb := Lib.hid (fun y => (show Below w2.heap.size w2 ((more wr y).setCell ⟨g, p, none⟩ (.bool true)) from Below.setCell (below_more hBW.out y hBW.out.size) (by have := hg.out; show w2.heap.size ≤ g; omega) _))
                    have hUl2 := Lib.hid (show (U.set p true).length = k by rw [List.length_set]; exact hUl.out)
                    clear hBk hBW hU hUl hao hno hpf
                    go_wp2_with fail
                    refine wp_region_more2 (by kernel_rfl) (by kernel_rfl) ?_
                    repeat (go_big_quiet_step (fail))
                    refine wpQuiet_nil ?_
                    rintro _ ⟨y2, rfl⟩
                    go_wp2
                    exact ⟨⟨i + 1, _, by go_num, by omega, hnext, hUl2, hfin.out _, hfb.out _⟩, by simp [intOf]; omega⟩
                  · obtain ⟨j, rfl⟩ : ∃ j, q = j + 1 := ⟨q - 1, by omega⟩
                    have hjl : j < l.length := by have := hN.out; omega
                    have hjU : j < U.length := by have := hUl.out; omega
                    have hlj : l[j]? = some l[j] := List.getElem?_eq_getElem hjl
                    have hUj : U[j]? = some U[j] := List.getElem?_eq_getElem hjU
                    obtain ⟨b0', o0', e', clj⟩ := row_str hA3.out hBW.out hlj
                    injection e' with e'
                    injection e' with e1 e2
                    subst e1 e2
                    have cu := fun y => (show (more wr y).cell? ⟨g, j, none⟩ = some (.bool U[j]) from by
                      rw [(hBk.out.more y).cell j]; simp [hUj])
                    have hj1 : (((j + 1 : Nat) : Int) - 1) = (j : Int) := by omega
                    rw [hj1] at e11
                    subst e11
                    have hj0 : (0 : Int) ≤ (j : Int) := by omega
                    have hjk : (j : Int) < (k : Int) := by omega
                    have hljs : l[j].size ≤ 9223372036854775807 := hl.out _ (List.getElem_mem hjl)
                    have hno' := Lib.hid (fun (h1 : j < p) (h2 : U[j] = false) => hno.out j hjl h1 (by rw [hUj, h2]))
                    have hpp := Lib.hid (show j = p → U[j] = false ∧ l[j] = x from fun h => by
                      subst h
                      have h1 := hpf.out
                      have h2 := hlx.out
                      rw [hUj] at h1
                      rw [hlj] at h2
                      injection h1 with h1
                      injection h2 with h2
                      exact ⟨h1, h2⟩)
                    generalize U[j] = bj at *
                    generalize l[j] = lj at *
                    clear hlj hUj hjU hjl
                    cases bj with
                    | true =>
                      go_wp2_with fail
                      refine wp_region_more2 (by kernel_rfl) (by kernel_rfl) ?_
                      repeat (go_big_quiet_step (fail))
                      refine wpQuiet_nil ?_
                      rintro _ ⟨y2, rfl⟩
                      go_wp2
                      exact ⟨⟨j, ao, _, by go_num, rfl, by omega, Lib.hid (fun h => by
                        rcases Nat.lt_or_ge j p with h2 | h2
                        · exact hao.out (by omega)
                        · have h3 : j = p := by omega
                          have := (hpp.out h3).1; cases this), rfl⟩, by simp [intOf]⟩
                    | false =>
                      by_cases hsz : lj.size = x.size
                      · have hsz' : ((lj.size : Int) == (x.size : Int)) = true := by rw [hsz]; simp
                        have hrel2 := Lib.hid (show j ≤ p → (j : Int) = (p : Int) from fun h => by
                          rcases Nat.lt_or_ge j p with h2 | h2
                          · exact absurd hsz (hno'.out h2 rfl)
                          · omega)
                        clear hsz hno' hpp
                        go_wp2_with fail
                        refine wp_region_more2 (by kernel_rfl) (by kernel_rfl) ?_
                        repeat (go_big_quiet_step (fail))
                        refine wpQuiet_nil ?_
                        rintro _ ⟨y2, rfl⟩
                        go_wp2
                        exact ⟨⟨j, (j : Int), _, by go_num, rfl, by omega, hrel2, rfl⟩, by simp [intOf]⟩
                      · have hsz' : ((lj.size : Int) == (x.size : Int)) = false := by rw [beq_eq_false_iff_ne]; omega
                        have hrel2 := Lib.hid (show j ≤ p → ao = (p : Int) from fun h => by
                          rcases Nat.lt_or_ge j p with h2 | h2
                          · exact hao.out (by omega)
                          · have h3 : j = p := by omega
                            exact absurd (by rw [(hpp.out h3).2]) hsz)
                        clear hsz hno' hpp
                        go_wp2_with fail
                        refine wp_region_more2 (by kernel_rfl) (by kernel_rfl) ?_
                        repeat (go_big_quiet_step (fail))
                        refine wpQuiet_nil ?_
                        rintro _ ⟨y2, rfl⟩
                        go_wp2
                        exact ⟨⟨j, ao, _, by go_num, rfl, by omega, hrel2, rfl⟩, by simp [intOf]⟩
              · have hiK' : ¬ ((i : Int) < (K : Int)) := by omega
                have hiK2 : ¬ (i < K) := by omega
                clear htx
                go_wp2_with fail
                refine wp_region_more (by kernel_rfl) (by kernel_rfl) ?_
                repeat (go_big_quiet_step (fail))
                refine wpQuiet_nil ?_
                rintro _ ⟨y0, rfl⟩
                go_wp2
                go_loopw [10, 11] (fun t10 t11 wr3 => ∃ (q : Nat) (ao : Int) (y : Ext), t11 = .int .i64 ((q : Int) - 1) ∧ t10 = .int .i64 ao ∧ q ≤ k ∧ Hid (q ≤ p → ao = (p : Int)) ∧ wr3 = more wr y) (fun _ t _ => (intOf t + 1).toNat)
                case atStart => exact ⟨k, -1, y0, rfl, rfl, Nat.le_refl _, Lib.hid (fun h => by omega), rfl⟩
                case round =>
                  obtain ⟨q, ao, y, e11, rfl, hq, hao, rfl⟩ := hrel
                  rcases Nat.eq_zero_or_pos q with hq0 | hq0
                  · subst hq0
                    subst e11
                    obtain rfl : ao = (p : Int) := hao.out (Nat.zero_le _)
                    have hp0 : ((p : Int) < 0) = False := eq_false (by omega)
                    have hpk' : (p : Int) < (k : Int) := by omega
                    have hUp : p < U.length := by have := hUl.out; omega
                    have cu := fun y => (show (more wr y).cell? ⟨g, p, none⟩ = some (.bool false) from by
                      rw [(hBk.out.more y).cell p]; simp [hpf.out])
                    have fu := fun y => (show (more wr y).frozen? ⟨g, p, none⟩ = false from (hBk.out.more y).free p)
                    have hfin := Lib.hid (fun y => (show Blk ((more wr y).setCell ⟨g, p, none⟩ (.bool true)) g ((U.set p true).map Value.bool).toArray 4 from by
                      have := (hBk.out.more y).set p (.bool true)
                      rwa [show ((U.map Value.bool).toArray.setIfInBounds p (.bool true)) = ((U.set p true).map Value.bool).toArray by simp [List.map_set]] at this))
                    have hfb := Lib.hid (fun y => (show Below w2.heap.size w2 ((more wr y).setCell ⟨g, p, none⟩ (.bool true)) from Below.setCell (below_more hBW.out y hBW.out.size) (by have := hg.out; show w2.heap.size ≤ g; omega) _))
                    have hUl2 := Lib.hid (show (U.set p true).length = k by rw [List.length_set]; exact hUl.out)
                    clear hBk hBW hU hUl hao hno hpf
                    go_wp2_with fail
                    refine wp_region_more2 (by kernel_rfl) (by kernel_rfl) ?_
                    repeat (go_big_quiet_step (fail))
                    refine wpQuiet_nil ?_
                    rintro _ ⟨y2, rfl⟩
                    go_wp2
                    exact ⟨⟨i + 1, _, by go_num, by omega, hnext, hUl2, hfin.out _, hfb.out _⟩, by simp [intOf]; omega⟩
                  · obtain ⟨j, rfl⟩ : ∃ j, q = j + 1 := ⟨q - 1, by omega⟩
                    have hjl : j < l.length := by have := hN.out; omega
                    have hjU : j < U.length := by have := hUl.out; omega
                    have hlj : l[j]? = some l[j] := List.getElem?_eq_getElem hjl
                    have hUj : U[j]? = some U[j] := List.getElem?_eq_getElem hjU
                    obtain ⟨b0', o0', e', clj⟩ := row_str hA3.out hBW.out hlj
                    injection e' with e'
                    injection e' with e1 e2
                    subst e1 e2
                    have cu := fun y => (show (more wr y).cell? ⟨g, j, none⟩ = some (.bool U[j]) from by
                      rw [(hBk.out.more y).cell j]; simp [hUj])
                    have hj1 : (((j + 1 : Nat) : Int) - 1) = (j : Int) := by omega
                    rw [hj1] at e11
                    subst e11
                    have hj0 : (0 : Int) ≤ (j : Int) := by omega
                    have hjk : (j : Int) < (k : Int) := by omega
                    have hljs : l[j].size ≤ 9223372036854775807 := hl.out _ (List.getElem_mem hjl)
                    have hno' := Lib.hid (fun (h1 : j < p) (h2 : U[j] = false) => hno.out j hjl h1 (by rw [hUj, h2]))
                    have hpp := Lib.hid (show j = p → U[j] = false ∧ l[j] = x from fun h => by
                      subst h
                      have h1 := hpf.out
                      have h2 := hlx.out
                      rw [hUj] at h1
                      rw [hlj] at h2
                      injection h1 with h1
                      injection h2 with h2
                      exact ⟨h1, h2⟩)
                    generalize U[j] = bj at *
                    generalize l[j] = lj at *
                    clear hlj hUj hjU hjl
                    cases bj with
                    | true =>
                      go_wp2_with fail
                      refine wp_region_more2 (by kernel_rfl) (by kernel_rfl) ?_
                      repeat (go_big_quiet_step (fail))
                      refine wpQuiet_nil ?_
                      rintro _ ⟨y2, rfl⟩
                      go_wp2
                      exact ⟨⟨j, ao, _, by go_num, rfl, by omega, Lib.hid (fun h => by
                        rcases Nat.lt_or_ge j p with h2 | h2
                        · exact hao.out (by omega)
                        · have h3 : j = p := by omega
                          have := (hpp.out h3).1; cases this), rfl⟩, by simp [intOf]⟩
                    | false =>
                      by_cases hsz : lj.size = x.size
                      · have hsz' : ((lj.size : Int) == (x.size : Int)) = true := by rw [hsz]; simp
                        have hrel2 := Lib.hid (show j ≤ p → (j : Int) = (p : Int) from fun h => by
                          rcases Nat.lt_or_ge j p with h2 | h2
                          · exact absurd hsz (hno'.out h2 rfl)
                          · omega)
                        clear hsz hno' hpp
                        go_wp2_with fail
                        refine wp_region_more2 (by kernel_rfl) (by kernel_rfl) ?_
                        repeat (go_big_quiet_step (fail))
                        refine wpQuiet_nil ?_
                        rintro _ ⟨y2, rfl⟩
                        go_wp2
                        exact ⟨⟨j, (j : Int), _, by go_num, rfl, by omega, hrel2, rfl⟩, by simp [intOf]⟩
                      · have hsz' : ((lj.size : Int) == (x.size : Int)) = false := by rw [beq_eq_false_iff_ne]; omega
                        have hrel2 := Lib.hid (show j ≤ p → ao = (p : Int) from fun h => by
                          rcases Nat.lt_or_ge j p with h2 | h2
                          · exact hao.out (by omega)
                          · have h3 : j = p := by omega
                            exact absurd (by rw [(hpp.out h3).2]) hsz)
                        clear hsz hno' hpp
                        go_wp2_with fail
                        refine wp_region_more2 (by kernel_rfl) (by kernel_rfl) ?_
                        repeat (go_big_quiet_step (fail))
                        refine wpQuiet_nil ?_
                        rintro _ ⟨y2, rfl⟩
                        go_wp2
                        exact ⟨⟨j, ao, _, by go_num, rfl, by omega, hrel2, rfl⟩, by simp [intOf]⟩
            · obtain ⟨i', rfl⟩ : ∃ i', i = i' + 1 := ⟨i - 1, by omega⟩
              obtain ⟨x', hx', hxl⟩ := hprev hi0
              rw [Nat.add_sub_cancel] at hx'
              obtain ⟨b1', o1', e1', cs'⟩ := row_str hs2.out hBW.out hx'
              injection e1' with e1'
              injection e1' with e11 e12
              subst e11 e12
              have hi1 : (((i' + 1 : Nat) : Int) - 1) = (i' : Int) := by omega
              have hi00 : (0 : Int) < ((i' + 1 : Nat) : Int) := by omega
              have hi2 : (i' : Int) < (k : Int) := by omega
              have hi3 : (i' : Int) + 1 - 1 = (i' : Int) := by omega
              have hi4 : (0 : Int) < (i' : Int) + 1 := by omega
              have hi5 : (i' : Int) + 1 < (k : Int) := by omega
              have hxl' : ¬ ((x'.size : Int) < (x.size : Int)) := by omega
              clear hprev hx'
              rcases Nat.lt_or_ge (i' + 1) K with hiK | hiK
              · obtain ⟨b2, o2, e2, ct⟩ := row_str ht2.out hBW.out (htx hiK)
                subst e2
                have hiK' : ((i' + 1 : Nat) : Int) < (K : Int) := by omega
                have hiK3 : (i' : Int) + 1 < (K : Int) := by omega
                clear htx
                go_wp2_with fail
                refine wp_region_more (by kernel_rfl) (by kernel_rfl) ?_
                repeat (go_big_quiet_step (fail))
                refine wpQuiet_nil ?_
                rintro _ ⟨y0, rfl⟩
                go_wp2
                go_loopw [10, 11] (fun t10 t11 wr3 => ∃ (q : Nat) (ao : Int) (y : Ext), t11 = .int .i64 ((q : Int) - 1) ∧ t10 = .int .i64 ao ∧ q ≤ k ∧ Hid (q ≤ p → ao = (p : Int)) ∧ wr3 = more wr y) (fun _ t _ => (intOf t + 1).toNat)
                case atStart => exact ⟨k, -1, y0, rfl, rfl, Nat.le_refl _, Lib.hid (fun h => by omega), rfl⟩
                case round =>
                  obtain ⟨q, ao, y, e11, rfl, hq, hao, rfl⟩ := hrel
                  rcases Nat.eq_zero_or_pos q with hq0 | hq0
                  · subst hq0
                    subst e11
                    obtain rfl : ao = (p : Int) := hao.out (Nat.zero_le _)
                    have hp0 : ((p : Int) < 0) = False := eq_false (by omega)
                    have hpk' : (p : Int) < (k : Int) := by omega
                    have hUp : p < U.length := by have := hUl.out; omega
                    have cu := fun y => (show (more wr y).cell? ⟨g, p, none⟩ = some (.bool false) from by
                      rw [(hBk.out.more y).cell p]; simp [hpf.out])
                    have fu := fun y => (show (more wr y).frozen? ⟨g, p, none⟩ = false from (hBk.out.more y).free p)
                    have hfin := Lib.hid (fun y => (show Blk ((more wr y).setCell ⟨g, p, none⟩ (.bool true)) g ((U.set p true).map Value.bool).toArray 4 from by
                      have := (hBk.out.more y).set p (.bool true)
                      rwa [show ((U.map Value.bool).toArray.setIfInBounds p (.bool true)) = ((U.set p true).map Value.bool).toArray by simp [List.map_set]] at this))
                    have hfb := Lib.hid (fun y => (show Below w2.heap.size w2 ((more wr y).setCell ⟨g, p, none⟩ (.bool true)) from Below.setCell (below_more hBW.out y hBW.out.size) (by have := hg.out; show w2.heap.size ≤ g; omega) _))
                    have hUl2 := Lib.hid (show (U.set p true).length = k by rw [List.length_set]; exact hUl.out)
                    clear hBk hBW hU hUl hao hno hpf
                    go_wp2_with fail
                    refine wp_region_more2 (by kernel_rfl) (by kernel_rfl) ?_
                    repeat (go_big_quiet_step (fail))
                    refine wpQuiet_nil ?_
                    rintro _ ⟨y2, rfl⟩
                    go_wp2
                    exact ⟨⟨i' + 1 + 1, _, by go_num, by omega, hnext, hUl2, hfin.out _, hfb.out _⟩, by simp [intOf]; omega⟩
                  · obtain ⟨j, rfl⟩ : ∃ j, q = j + 1 := ⟨q - 1, by omega⟩
                    have hjl : j < l.length := by have := hN.out; omega
                    have hjU : j < U.length := by have := hUl.out; omega
                    have hlj : l[j]? = some l[j] := List.getElem?_eq_getElem hjl
                    have hUj : U[j]? = some U[j] := List.getElem?_eq_getElem hjU
                    obtain ⟨b0', o0', e', clj⟩ := row_str hA3.out hBW.out hlj
                    injection e' with e'
                    injection e' with e1 e2
                    subst e1 e2
                    have cu := fun y => (show (more wr y).cell? ⟨g, j, none⟩ = some (.bool U[j]) from by
                      rw [(hBk.out.more y).cell j]; simp [hUj])
                    have hj1 : (((j + 1 : Nat) : Int) - 1) = (j : Int) := by omega
                    rw [hj1] at e11
                    subst e11
                    have hj0 : (0 : Int) ≤ (j : Int) := by omega
                    have hjk : (j : Int) < (k : Int) := by omega
                    have hljs : l[j].size ≤ 9223372036854775807 := hl.out _ (List.getElem_mem hjl)
                    have hno' := Lib.hid (fun (h1 : j < p) (h2 : U[j] = false) => hno.out j hjl h1 (by rw [hUj, h2]))
                    have hpp := Lib.hid (show j = p → U[j] = false ∧ l[j] = x from fun h => by
                      subst h
                      have h1 := hpf.out
                      have h2 := hlx.out
                      rw [hUj] at h1
                      rw [hlj] at h2
                      injection h1 with h1
                      injection h2 with h2
                      exact ⟨h1, h2⟩)
                    generalize U[j] = bj at *
                    generalize l[j] = lj at *
                    clear hlj hUj hjU hjl
                    cases bj with
                    | true =>
                      go_wp2_with fail
                      refine wp_region_more2 (by kernel_rfl) (by kernel_rfl) ?_
                      repeat (go_big_quiet_step (fail))
                      refine wpQuiet_nil ?_
                      rintro _ ⟨y2, rfl⟩
                      go_wp2
                      exact ⟨⟨j, ao, _, by go_num, rfl, by omega, Lib.hid (fun h => by
                        rcases Nat.lt_or_ge j p with h2 | h2
                        · exact hao.out (by omega)
                        · have h3 : j = p := by omega
                          have := (hpp.out h3).1; cases this), rfl⟩, by simp [intOf]⟩
                    | false =>
                      by_cases hsz : lj.size = x.size
                      · have hsz' : ((lj.size : Int) == (x.size : Int)) = true := by rw [hsz]; simp
                        have hrel2 := Lib.hid (show j ≤ p → (j : Int) = (p : Int) from fun h => by
                          rcases Nat.lt_or_ge j p with h2 | h2
                          · exact absurd hsz (hno'.out h2 rfl)
                          · omega)
                        clear hsz hno' hpp
                        go_wp2_with fail
                        refine wp_region_more2 (by kernel_rfl) (by kernel_rfl) ?_
                        repeat (go_big_quiet_step (fail))
                        refine wpQuiet_nil ?_
                        rintro _ ⟨y2, rfl⟩
                        go_wp2
                        exact ⟨⟨j, (j : Int), _, by go_num, rfl, by omega, hrel2, rfl⟩, by simp [intOf]⟩
                      · have hsz' : ((lj.size : Int) == (x.size : Int)) = false := by rw [beq_eq_false_iff_ne]; omega
                        have hrel2 := Lib.hid (show j ≤ p → ao = (p : Int) from fun h => by
                          rcases Nat.lt_or_ge j p with h2 | h2
                          · exact hao.out (by omega)
                          · have h3 : j = p := by omega
                            exact absurd (by rw [(hpp.out h3).2]) hsz)
                        clear hsz hno' hpp
                        go_wp2_with fail
                        refine wp_region_more2 (by kernel_rfl) (by kernel_rfl) ?_
                        repeat (go_big_quiet_step (fail))
                        refine wpQuiet_nil ?_
                        rintro _ ⟨y2, rfl⟩
                        go_wp2
                        exact ⟨⟨j, ao, _, by go_num, rfl, by omega, hrel2, rfl⟩, by simp [intOf]⟩
              · have hiK' : ¬ (((i' + 1 : Nat) : Int) < (K : Int)) := by omega
                have hiK2 : (i' + 1 < K) = False := eq_false (by omega)
                have hiK3 : ((i' : Int) + 1 < (K : Int)) = False := eq_false (by omega)
                clear htx
                go_wp2_with fail
                refine wp_region_more (by kernel_rfl) (by kernel_rfl) ?_
                repeat (go_big_quiet_step (fail))
                refine wpQuiet_nil ?_
                rintro _ ⟨y0, rfl⟩
                go_wp2
                go_loopw [10, 11] (fun t10 t11 wr3 => ∃ (q : Nat) (ao : Int) (y : Ext), t11 = .int .i64 ((q : Int) - 1) ∧ t10 = .int .i64 ao ∧ q ≤ k ∧ Hid (q ≤ p → ao = (p : Int)) ∧ wr3 = more wr y) (fun _ t _ => (intOf t + 1).toNat)
                case atStart => exact ⟨k, -1, y0, rfl, rfl, Nat.le_refl _, Lib.hid (fun h => by omega), rfl⟩
                case round =>
                  obtain ⟨q, ao, y, e11, rfl, hq, hao, rfl⟩ := hrel
                  rcases Nat.eq_zero_or_pos q with hq0 | hq0
                  · subst hq0
                    subst e11
                    obtain rfl : ao = (p : Int) := hao.out (Nat.zero_le _)
                    have hp0 : ((p : Int) < 0) = False := eq_false (by omega)
                    have hpk' : (p : Int) < (k : Int) := by omega
                    have hUp : p < U.length := by have := hUl.out; omega
                    have cu := fun y => (show (more wr y).cell? ⟨g, p, none⟩ = some (.bool false) from by
                      rw [(hBk.out.more y).cell p]; simp [hpf.out])
                    have fu := fun y => (show (more wr y).frozen? ⟨g, p, none⟩ = false from (hBk.out.more y).free p)
                    have hfin := Lib.hid (fun y => (show Blk ((more wr y).setCell ⟨g, p, none⟩ (.bool true)) g ((U.set p true).map Value.bool).toArray 4 from by
                      have := (hBk.out.more y).set p (.bool true)
                      rwa [show ((U.map Value.bool).toArray.setIfInBounds p (.bool true)) = ((U.set p true).map Value.bool).toArray by simp [List.map_set]] at this))
                    have hfb := Lib.hid (fun y => (show Below w2.heap.size w2 ((more wr y).setCell ⟨g, p, none⟩ (.bool true)) from Below.setCell (below_more hBW.out y hBW.out.size) (by have := hg.out; show w2.heap.size ≤ g; omega) _))
                    have hUl2 := Lib.hid (show (U.set p true).length = k by rw [List.length_set]; exact hUl.out)
                    clear hBk hBW hU hUl hao hno hpf
                    go_wp2_with fail
                    refine wp_region_more2 (by kernel_rfl) (by kernel_rfl) ?_
                    repeat (go_big_quiet_step (fail))
                    refine wpQuiet_nil ?_
                    rintro _ ⟨y2, rfl⟩
                    go_wp2
                    exact ⟨⟨i' + 1 + 1, _, by go_num, by omega, hnext, hUl2, hfin.out _, hfb.out _⟩, by simp [intOf]; omega⟩
                  · obtain ⟨j, rfl⟩ : ∃ j, q = j + 1 := ⟨q - 1, by omega⟩
                    have hjl : j < l.length := by have := hN.out; omega
                    have hjU : j < U.length := by have := hUl.out; omega
                    have hlj : l[j]? = some l[j] := List.getElem?_eq_getElem hjl
                    have hUj : U[j]? = some U[j] := List.getElem?_eq_getElem hjU
                    obtain ⟨b0', o0', e', clj⟩ := row_str hA3.out hBW.out hlj
                    injection e' with e'
                    injection e' with e1 e2
                    subst e1 e2
                    have cu := fun y => (show (more wr y).cell? ⟨g, j, none⟩ = some (.bool U[j]) from by
                      rw [(hBk.out.more y).cell j]; simp [hUj])
                    have hj1 : (((j + 1 : Nat) : Int) - 1) = (j : Int) := by omega
                    rw [hj1] at e11
                    subst e11
                    have hj0 : (0 : Int) ≤ (j : Int) := by omega
                    have hjk : (j : Int) < (k : Int) := by omega
                    have hljs : l[j].size ≤ 9223372036854775807 := hl.out _ (List.getElem_mem hjl)
                    have hno' := Lib.hid (fun (h1 : j < p) (h2 : U[j] = false) => hno.out j hjl h1 (by rw [hUj, h2]))
                    have hpp := Lib.hid (show j = p → U[j] = false ∧ l[j] = x from fun h => by
                      subst h
                      have h1 := hpf.out
                      have h2 := hlx.out
                      rw [hUj] at h1
                      rw [hlj] at h2
                      injection h1 with h1
                      injection h2 with h2
                      exact ⟨h1, h2⟩)
                    generalize U[j] = bj at *
                    generalize l[j] = lj at *
                    clear hlj hUj hjU hjl
                    cases bj with
                    | true =>
                      go_wp2_with fail
                      refine wp_region_more2 (by kernel_rfl) (by kernel_rfl) ?_
                      repeat (go_big_quiet_step (fail))
                      refine wpQuiet_nil ?_
                      rintro _ ⟨y2, rfl⟩
                      go_wp2
                      exact ⟨⟨j, ao, _, by go_num, rfl, by omega, Lib.hid (fun h => by
                        rcases Nat.lt_or_ge j p with h2 | h2
                        · exact hao.out (by omega)
                        · have h3 : j = p := by omega
                          have := (hpp.out h3).1; cases this), rfl⟩, by simp [intOf]⟩
                    | false =>
                      by_cases hsz : lj.size = x.size
                      · have hsz' : ((lj.size : Int) == (x.size : Int)) = true := by rw [hsz]; simp
                        have hrel2 := Lib.hid (show j ≤ p → (j : Int) = (p : Int) from fun h => by
                          rcases Nat.lt_or_ge j p with h2 | h2
                          · exact absurd hsz (hno'.out h2 rfl)
                          · omega)
                        clear hsz hno' hpp
                        go_wp2_with fail
                        refine wp_region_more2 (by kernel_rfl) (by kernel_rfl) ?_
                        repeat (go_big_quiet_step (fail))
                        refine wpQuiet_nil ?_
                        rintro _ ⟨y2, rfl⟩
                        go_wp2
                        exact ⟨⟨j, (j : Int), _, by go_num, rfl, by omega, hrel2, rfl⟩, by simp [intOf]⟩
                      · have hsz' : ((lj.size : Int) == (x.size : Int)) = false := by rw [beq_eq_false_iff_ne]; omega
                        have hrel2 := Lib.hid (show j ≤ p → ao = (p : Int) from fun h => by
                          rcases Nat.lt_or_ge j p with h2 | h2
                          · exact hao.out (by omega)
                          · have h3 : j = p := by omega
                            exact absurd (by rw [(hpp.out h3).2]) hsz)
                        clear hsz hno' hpp
                        go_wp2_with fail
                        refine wp_region_more2 (by kernel_rfl) (by kernel_rfl) ?_
                        repeat (go_big_quiet_step (fail))
                        refine wpQuiet_nil ?_
                        rintro _ ⟨y2, rfl⟩
                        go_wp2
                        exact ⟨⟨j, ao, _, by go_num, rfl, by omega, hrel2, rfl⟩, by simp [intOf]⟩
          · go_wp2
            go_ret
            exact ⟨rfl, more_of_below (hB2.out.trans (hBW.out.mono hB2.out.size))⟩
theorem law_HeapTypes (v0 v1 : Value) (w : World) (h0 : IsRow sC 1 (fun n => n.size ≤ 9223372036854775807) w v0) (h1 : IsI64 v1) :
    Calls Try.prog 9 #[v0, v1] w fun e w' => e = .returned (.bool true) ∧ Below w.heap.size w w' := by
  obtain ⟨A, ca, l, rfl, q1, q2, q3, ql, qa⟩ := h0
  obtain ⟨n, rfl, k1, k2⟩ := h1
  exact law_of (walk_HeapTypes A ca l n k1 k2 w (by omega) q1 ql qa)
end Go.Proofs.Ytilpgojkbgbinaa
