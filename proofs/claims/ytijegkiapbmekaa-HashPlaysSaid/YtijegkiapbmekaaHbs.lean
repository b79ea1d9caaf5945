/- slices.BinarySearch at rows of numbers. -/
import Derived.Test.YtijegkiapbmekaaHins
import Derived.Deep.LoopGhost
set_option maxRecDepth 100000
set_option linter.unusedVariables false
set_option linter.unusedSimpArgs false
namespace Go.Proofs.Ytijegkiapbmekaa
open Go.RowKit
attribute [local go_sem] run_frombits run_tobits more_more more_drew more_drewN more_size more_cell more_frozen run_store_float lt_c1 le_c1 lt_s1 le_s1 lt_c2 le_c2 lt_s2 le_s2 lt_c3 le_c3 lt_s3 le_s3 lt_c4 le_c4 lt_s4 le_s4 lt_c5 le_c5 lt_s5 le_s5 lt_c6 le_c6 lt_s6 le_s6 lt_c7 le_c7 lt_s7 le_s7 lt_c8 le_c8 lt_s8 le_s8 lt_c9 le_c9 lt_s9 le_s9 lt_c10 le_c10 lt_s10 le_s10 lt_c11 le_c11 lt_s11 le_s11 lt_c12 le_c12 lt_s12 le_s12 le_c0
/-- the place of x in a row that rises -/
structure Place (l : List Int) (x : Int) (i : Nat) : Prop where
  le : i ≤ l.length
  below : ∀ t (h : t < l.length), t < i → l[t] < x
  above : ∀ t (h : t < l.length), i ≤ t → x ≤ l[t]
set_option maxHeartbeats 4000000 in
theorem bs_any (A : Option Addr) (ca : Nat) (l : List Int) (x : Int) (w : World) (la : l.length ≤ 1000000) (ha : RowIn intC 1 w A l) (hs : l.Pairwise (· < ·)) :
    Calls Try.prog 28 #[.slice A l.length ca, .int .i64 x] w fun e w' => ∃ (i : Nat) (b : Bool), e = .returned (.tuple #[.int .i64 (i : Nat), .bool b]) ∧ Hid (Place l x i) ∧ w = w' := by
  have HA := Lib.hid (show ∀ j (hj : j < l.length), ∃ b o, A = some ⟨b, o, none⟩ ∧ w.cell? ⟨b, o + j, none⟩ = some (.int .i64 l[j]) from fun j hj => by
    obtain ⟨b, o, e, _, hc⟩ := ha j hj
    exact ⟨b, o, e, by have := hc j hj 0 _ rfl; simpa using this⟩)
  have S := Lib.hid (show ∀ a b (ha : a < l.length) (hb : b < l.length), a < b → l[a] < l[b] from fun a b h1 h2 h => (List.pairwise_iff_getElem.1 hs) a b h1 h2 h)
  clear ha hs
  go_enter Try.func28, Try.ntmps28
  go_wp2
  go_loopg [7, 8] l.length (fun g s7 s8 wr => ∃ lo hi : Nat, s7 = .int .i64 lo ∧ s8 = .int .i64 hi ∧ lo ≤ hi ∧ hi ≤ l.length ∧ hi - lo ≤ g ∧ Hid ((∀ t (h : t < l.length), t < lo → l[t] < x) ∧ (∀ t (h : t < l.length), hi ≤ t → x ≤ l[t])) ∧ wr = w)
  case atStart => exact ⟨0, l.length, rfl, rfl, Nat.zero_le _, Nat.le_refl _, by omega, Lib.hid ⟨fun t _ ht => absurd ht (Nat.not_lt_zero _), fun t h1 h2 => by omega⟩, rfl⟩
  case round =>
    obtain ⟨lo, hi, rfl, rfl, hlh, hin, hg, I, rfl⟩ := hrel
    by_cases hlt : lo < hi
    · have hm : (lo + hi) / 2 < l.length := by omega
      obtain ⟨b, o, rfl, cm⟩ := HA.out _ hm
      by_cases hyx : l[(lo + hi) / 2] < x
      · have Y := Lib.hid (show ∀ t (h : t < l.length), t < (lo + hi) / 2 + 1 → l[t] < x from fun t h ht => by
          rcases Nat.lt_or_ge t ((lo + hi) / 2) with q | q
          · exact Int.lt_trans (S.out _ _ h hm q) hyx
          · have : t = (lo + hi) / 2 := by omega
            subst this; exact hyx)
        have hyx' : (l[(lo + hi) / 2] < x) = True := eq_true hyx
        clear hyx
        generalize l[(lo + hi) / 2] = y at *
        go_wp2
        go_roundg (hi - ((lo + hi) / 2 + 1))
        case measure => omega
        case rel => exact ⟨(lo + hi) / 2 + 1, hi, by rw [show ((lo : Int) + (hi : Int)) / 2 + 1 = (((lo + hi) / 2 + 1 : Nat) : Int) by omega], rfl, by omega, hin, Nat.le_refl _, Lib.hid ⟨Y.out, I.out.2⟩, rfl⟩
      · have Y := Lib.hid (show ∀ t (h : t < l.length), (lo + hi) / 2 ≤ t → x ≤ l[t] from fun t h ht => by
          rcases Nat.lt_or_ge ((lo + hi) / 2) t with q | q
          · have := S.out _ _ hm h q
            omega
          · have : t = (lo + hi) / 2 := by omega
            subst this; omega)
        have hyx' : (l[(lo + hi) / 2] < x) = False := eq_false hyx
        clear hyx
        generalize l[(lo + hi) / 2] = y at *
        go_wp2
        go_roundg ((lo + hi) / 2 - lo)
        case measure => omega
        case rel => exact ⟨lo, (lo + hi) / 2, rfl, by rw [show ((lo : Int) + (hi : Int)) / 2 = (((lo + hi) / 2 : Nat) : Int) by omega], by omega, by omega, Nat.le_refl _, Lib.hid ⟨I.out.1, Y.out⟩, rfl⟩
    · have : hi = lo := by omega
      subst this
      have E := Lib.hid (show Place l x hi from ⟨hin, I.out.1, I.out.2⟩)
      by_cases hn : hi < l.length
      · obtain ⟨b, o, rfl, cl⟩ := HA.out _ hn
        clear I hlh
        generalize l[hi] = y at *
        by_cases hyx : y = x
        · have h1 : (y == x) = true := by simpa using hyx
          clear hyx
          go_wp2
          go_ret2
          exact ⟨hi, _, rfl, E, rfl⟩
        · have h1 : (y == x) = false := by simpa using hyx
          clear hyx
          go_wp2
          go_ret2
          exact ⟨hi, _, rfl, E, rfl⟩
      · have hn' : ((hi : Int) < (l.length : Int)) = False := eq_false (by omega)
        clear I hlh
        go_wp2
        go_ret2
        exact ⟨hi, _, rfl, E, rfl⟩
/-- laid in at its place a row rises still -/
theorem Place.insert {l : List Int} {x : Int} {i : Nat} (h : Place l x i) (hs : l.Pairwise (· < ·)) (hx : x ∉ l) : (insAt l i x).Pairwise (· < ·) := by
  refine insAt_pairwise hs (fun y hy => ?_) (fun y hy => ?_)
  · obtain ⟨t, ht, rfl⟩ := List.mem_take_iff_getElem.1 hy
    exact h.below t (by omega) (by omega)
  · obtain ⟨t, ht, rfl⟩ := List.mem_drop_iff_getElem.1 hy
    have h1 := h.above (i + t) (by omega) (by omega)
    have h2 : l[i + t] ≠ x := fun e => hx (e ▸ List.getElem_mem _)
    omega
theorem Place.insAt_mem {l : List Int} {x y : Int} {i : Nat} : y ∈ insAt l i x ↔ y = x ∨ y ∈ l := by
  rw [(insAt_perm l i x).mem_iff, List.mem_cons]
end Go.Proofs.Ytijegkiapbmekaa
