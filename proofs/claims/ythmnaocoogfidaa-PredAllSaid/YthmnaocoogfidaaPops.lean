/- PredOps: of two numbers each operator holds just as it must. -/
import Derived.Test.YthmnaocoogfidaaKnown20
import Derived.Test.YthmnaocoogfidaaOpen
import Derived.Deep.RegionHeld3
import Derived.IntWalk
set_option maxRecDepth 100000
set_option linter.unusedVariables false
set_option linter.unusedSimpArgs false
namespace Go.Proofs.Ythmnaocoogfidaa
open Go.RowKit
attribute [local go_sem] run_frombits run_tobits more_more more_drew more_drewN more_size more_cell more_frozen run_store_float lt_c1 le_c1 lt_s1 le_s1 lt_c2 le_c2 lt_s2 le_s2 lt_c3 le_c3 lt_s3 le_s3 lt_c4 le_c4 lt_s4 le_s4 lt_c5 le_c5 lt_s5 le_s5 lt_c6 le_c6 lt_s6 le_s6 lt_c7 le_c7 lt_s7 le_s7 lt_c8 le_c8 lt_s8 le_s8 lt_c9 le_c9 lt_s9 le_s9 lt_c10 le_c10 lt_s10 le_s10 lt_c11 le_c11 lt_s11 le_s11 lt_c12 le_c12 lt_s12 le_s12 le_c0

theorem below_more2 {W w : World} (h : Below W.heap.size W w) (x : Ext) : Below W.heap.size W (more w x) := below_more h x h.size
theorem below_alloc2 {W w : World} (h : Below W.heap.size W w) (o : Obj) : Below W.heap.size W (w.alloc o) := h.alloc h.size o
theorem to_more2 {W w : World} {Q : Exit → Act → World → Prop} {e : Exit} {a : Act} (h : Below W.heap.size W w) (k : ∀ z, Q e a (more W z)) : Q e a w := by
  obtain ⟨z, rfl⟩ := more_of_below h
  exact k z
set_option maxHeartbeats 400000 in
theorem num20_any (n : Int) (w : World) : Gives Try.prog 21 #[.int .i64 n] w (.agg #[.int .i64 1, .int .i64 n, .string ⟨#[]⟩, .float .f64 0]) := by
  go_enter Try.func21, Try.ntmps21
  go_wp2
  exact bodyPost_ret (v := .agg #[.int .i64 1, .int .i64 n, .string ⟨#[]⟩, .float .f64 0]) (by simp [results, Try.results21, go_sem]) rfl ⟨rfl, (more_of_below (by repeat (first | (with_reducible exact Below.refl _ _) | (with_reducible refine Below.drew ?_) | (with_reducible refine Below.alloc ?_ (by simp [more_size]; try omega) _) | (with_reducible refine Below.setCell ?_ (by simp [more_size]; try omega) _) | (with_reducible refine below_more ?_ _ (by simp [more_size]; try omega)))))⟩
/-- what each operator tells of two numbers -/
def wantB (a b : Int) (k : Nat) : Bool :=
  if k = 0 then a == b else if k = 1 then decide (a < b) else if k = 2 then decide (a ≤ b) else if k = 3 then decide (b < a) else decide (b ≤ a)
theorem cmpV_nums (a b : Int) : cmpV (numV' a) (numV' b) = cmpI a b := by
  have h1 : cmpI 1 1 = 0 := by decide
  have h3 : cmpB ⟨#[]⟩ ⟨#[]⟩ = 0 := by decide
  have h4 : cmpN (ordN 0) (ordN 0) = 0 := by decide
  unfold cmpV
  dsimp only
  rw [h1, h3, h4]
  unfold orI
  split <;> (try split) <;> simp_all
theorem holds_nums (a b : Int) (k : Nat) (hk : k < 5) : holdsB 0 (1 + k) (numV' b) [numV' a] = wantB a b k := by
  unfold holdsB
  rw [dif_pos ⟨by omega, by simp⟩]
  show opB (1 + k) (numV' a) (numV' b) = _
  unfold opB
  rw [cmpV_nums]
  unfold cmpI wantB
  have : k = 0 ∨ k = 1 ∨ k = 2 ∨ k = 3 ∨ k = 4 := by omega
  rcases this with rfl | rfl | rfl | rfl | rfl
  all_goals
    simp
    first
      | done
      | (rw [Bool.eq_iff_iff]; simp; split <;> (try split) <;> omega)
      | (split <;> (try split) <;> omega)
set_option maxHeartbeats 4000000 in
theorem walk_PredOps (a b : Int) (ha1 : -9223372036854775808 ≤ a) (ha2 : a < 9223372036854775808) (hb1 : -9223372036854775808 ≤ b) (hb2 : b < 9223372036854775808) (w : World) :
    Gives Try.prog 4 #[.int .i64 a, .int .i64 b] w (.bool true) := by
  have okA : (numV' a).ok := numV_ok' ha1 ha2
  have okB : (numV' b).ok := numV_ok' hb1 hb2
  have H1 : ∀ (k : Nat) W g, k < 5 → ValsIn W (some ⟨g, 0, none⟩) [numV' a] → Gives Try.prog 20 #[.agg #[.int .i64 0, .int .i64 (1 + k), .int .i64 1, .int .i64 b, .string ⟨#[]⟩, .float .f64 0], .slice (some ⟨g, 0, none⟩) 1 1] W (.bool (wantB a b k)) := fun k W g hk h => by
    have := holds_any 0 (1 + k) (numV' b) okB (some ⟨g, 0, none⟩) 1 [numV' a] (fun y hy => by simp at hy; rw [hy]; exact okA) W (by simp) h
    rw [holds_nums a b k hk] at this
    exact this
  have H2 : ∀ W g, ValsIn W (some ⟨g, 0, none⟩) [numV' a] → Gives Try.prog 20 #[.agg #[.int .i64 1, .int .i64 1, .int .i64 1, .int .i64 a, .string ⟨#[]⟩, .float .f64 0], .slice (some ⟨g, 0, none⟩) 1 1] W (.bool false) := fun W g h =>
    holds_any 1 1 (numV' a) okA (some ⟨g, 0, none⟩) 1 [numV' a] (fun y hy => by simp at hy; rw [hy]; exact okA) W (by simp) h
  replace H1 := Lib.hid H1
  replace H2 := Lib.hid H2
  clear okA okB ha1 ha2 hb1 hb2
  go_enter Try.func4, Try.ntmps4
  go_wp2_with fail
  refine (known20 _).mono' ?_; intro x0
  go_wp2_with fail
  have hcell : ∀ k < 5, ((more w x0).alloc (.cells #[.bool (a == b), .bool (decide (a < b)), .bool (decide (a ≤ b)), .bool (decide (b < a)), .bool (decide (b ≤ a))] 26)).cell? ⟨w.heap.size + x0.objs.size, k, none⟩ = some (.bool (wantB a b k)) := by
    intro k hk
    rw [World.cell?_alloc_at _ _ _ _ (by rw [more_size])]
    have : k = 0 ∨ k = 1 ∨ k = 2 ∨ k = 3 ∨ k = 4 := by omega
    rcases this with rfl | rfl | rfl | rfl | rfl <;> rfl
  have bw : Below w.heap.size w ((more w x0).alloc (.cells #[.bool (a == b), .bool (decide (a < b)), .bool (decide (a ≤ b)), .bool (decide (b < a)), .bool (decide (b ≤ a))] 26)) := (by repeat (first | (with_reducible exact Below.refl _ _) | (with_reducible refine Below.drew ?_) | (with_reducible refine Below.alloc ?_ (by simp [more_size]; try omega) _) | (with_reducible refine Below.setCell ?_ (by simp [more_size]; try omega) _) | (with_reducible refine below_more ?_ _ (by simp [more_size]; try omega))))
  have hg : w.heap.size + x0.objs.size < ((more w x0).alloc (.cells #[.bool (a == b), .bool (decide (a < b)), .bool (decide (a ≤ b)), .bool (decide (b < a)), .bool (decide (b ≤ a))] 26)).heap.size := by simp [more_size]
  generalize (more w x0).alloc (.cells #[.bool (a == b), .bool (decide (a < b)), .bool (decide (a ≤ b)), .bool (decide (b < a)), .bool (decide (b ≤ a))] 26) = W0 at *
  generalize w.heap.size + x0.objs.size = g at *
  replace bw := Lib.hid bw
  replace hcell := Lib.hid hcell
  go_loopw [6] (fun i wr => ∃ k : Nat, k ≤ 5 ∧ i = .int .i64 k ∧ Below W0.heap.size W0 wr) (fun i _ => 5 - (intOf i).toNat)
  case atStart => exact ⟨0, by omega, rfl, Below.refl _ _⟩
  case round =>
    obtain ⟨k, hk, rfl, hb⟩ := hrel
    replace hb := Lib.hid hb
    by_cases h1 : k < 5
    · have h1' : (k : Int) < 5 := by omega
      have c0 := hcell.out k h1
      replace c0 : wr.cell? ⟨g, k, none⟩ = some (.bool (wantB a b k)) := (hb.out.cell (p := ⟨g, k, none⟩) hg).trans c0
      have hgw : g < wr.heap.size := Nat.lt_of_lt_of_le hg hb.out.size
      generalize hwb : wantB a b k = wb at *
      replace hwb := Lib.hid hwb
      have KEEP := Lib.hid (fun w' (h : Below wr.heap.size wr w') => show Below wr.heap.size wr w' ∧ w'.cell? ⟨g, k, none⟩ = some (.bool wb) from ⟨h, (h.cell (p := ⟨g, k, none⟩) hgw).trans c0⟩)
      have HK := fun W g' h => H1.out k W g' h1 h
      rw [hwb.out] at HK
      replace HK := Lib.hid HK
      have hw : IntKind.i64.wrap (1 + (k : Int)) = 1 + k := IntWalk.i64_in _ (by omega)
      go_wp2_with fail
      go_region_held3 (fun w' => Below wr.heap.size wr w' ∧ w'.cell? ⟨g, k, none⟩ = some (.bool wb))
        (exact KEEP.out _ (by repeat (first | assumption | exact Below.refl _ _ | with_reducible refine below_more2 ?_ _ | with_reducible refine below_alloc2 ?_ _ | with_reducible refine Below.drew ?_)))
        (first
          | (go_at_call 21; refine (num20_any _ _).mono' ?_; intro x)
          | (go_at_call 20; refine (HK.out _ _ (by repeat (first | (with_reducible refine valsIn1 ?_; simp [more_size]; done) | (with_reducible refine valsIn2 ?_; simp [more_size]; done) | (with_reducible refine valsIn3 ?_; simp [more_size]; done) | (with_reducible refine ValsIn.alloc ?_ _) | (with_reducible refine ValsIn.drew ?_) | (with_reducible refine ValsIn.more ?_ _)))).mono' ?_; intro x))
      refine to_more2 (W := wr) (by repeat (first | exact Below.refl _ _ | with_reducible refine below_more2 ?_ _ | with_reducible refine below_alloc2 ?_ _ | with_reducible refine Below.drew ?_)) ?_
      intro z
      clear hw
      go_wp2
      refine ⟨⟨k + 1, by omega, by go_num, below_then hb.out (more_below _ _)⟩, by simp [intOf]; omega⟩
    · obtain rfl : k = 5 := by omega
      go_wp2_with (first | (go_at_call 21; refine (num20_any _ _).mono' ?_; intro x) | fail)
      refine (H2.out _ _ (by repeat (first | (with_reducible refine valsIn1 ?_; simp [more_size]; done) | (with_reducible refine valsIn2 ?_; simp [more_size]; done) | (with_reducible refine valsIn3 ?_; simp [more_size]; done) | (with_reducible refine ValsIn.alloc ?_ _) | (with_reducible refine ValsIn.drew ?_) | (with_reducible refine ValsIn.more ?_ _)))).mono' ?_; intro x9
      go_wp2
      go_ret
      exact ⟨rfl, more_then (below_then bw.out hb.out) (by repeat (first | (with_reducible exact Below.refl _ _) | (with_reducible refine Below.drew ?_) | (with_reducible refine Below.alloc ?_ (by simp [more_size]; try omega) _) | (with_reducible refine Below.setCell ?_ (by simp [more_size]; try omega) _) | (with_reducible refine below_more ?_ _ (by simp [more_size]; try omega))))⟩
theorem law_PredOps (v0 v1 : Value) (w : World) (h0 : IsI64 v0) (h1 : IsI64 v1) :
    Calls Try.prog 4 #[v0, v1] w fun e w' => e = .returned (.bool true) ∧ Below w.heap.size w w' := by
  obtain ⟨a, rfl, ha⟩ := h0
  obtain ⟨b, rfl, hb⟩ := h1
  exact law_of (walk_PredOps a b ha.1 ha.2 hb.1 hb.2 w)
end Go.Proofs.Ythmnaocoogfidaa
