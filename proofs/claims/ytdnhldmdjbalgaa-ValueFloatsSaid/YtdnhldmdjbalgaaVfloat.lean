/- ValueFloats: floats as values stand as their bits do. -/
import Derived.Test.YtdnhldmdjbalgaaKinds
import Derived.Test.YtdnhldmdjbalgaaHash
import Derived.Test.YtdnhldmdjbalgaaOrdP
import Derived.Test.YtdnhldmdjbalgaaKnown2
import Derived.Test.YtdnhldmdjbalgaaOpen
import Derived.Test.YtdnhldmdjbalgaaFloat
import Derived.Deep.RegionHeld3
set_option linter.unusedVariables false
set_option linter.unusedSimpArgs false
namespace Go.Proofs.Ytdnhldmdjbalgaa
open Go.RowKit
attribute [local go_sem] run_frombits run_tobits more_more more_drew more_drewN more_size more_cell more_frozen run_store_float lt_c1 le_c1 lt_s1 le_s1 lt_c2 le_c2 lt_s2 le_s2 lt_c3 le_c3 lt_s3 le_s3 lt_c4 le_c4 lt_s4 le_s4 lt_c5 le_c5 lt_s5 le_s5 lt_c6 le_c6 lt_s6 le_s6 lt_c7 le_c7 lt_s7 le_s7 lt_c8 le_c8 lt_s8 le_s8 lt_c9 le_c9 lt_s9 le_s9 lt_c10 le_c10 lt_s10 le_s10 lt_c11 le_c11 lt_s11 le_s11 lt_c12 le_c12 lt_s12 le_s12 le_c0 run_cmpstring

theorem below_more' {W w : World} (h : Below W.heap.size W w) (x : Ext) : Below W.heap.size W (more w x) := below_more h x h.size
theorem below_alloc' {W w : World} (h : Below W.heap.size W w) (o : Obj) : Below W.heap.size W (w.alloc o) := h.alloc h.size o
theorem to_more {W w : World} {Q : Exit → Act → World → Prop} {e : Exit} {a : Act} (h : Below W.heap.size W w) (k : ∀ z, Q e a (more W z)) : Q e a w := by
  obtain ⟨z, rfl⟩ := more_of_below h
  exact k z
theorem floatV_ok {a : Nat} (ha : a < 18446744073709551616) : (floatV a).ok := by
  refine ⟨ha, ?_, ?_, ?_⟩
  · exact (by decide : (-9223372036854775808 : Int) ≤ 5 ∧ (5 : Int) < 9223372036854775808)
  · exact (by decide : (-9223372036854775808 : Int) ≤ 0 ∧ (0 : Int) < 9223372036854775808)
  · exact (by decide : (0 : Nat) ≤ 9223372036854775807)
theorem floatV_is (a : Nat) : isV (floatV a) = true := by
  have h : (⟨#[]⟩ : ByteArray).toList = [] := by rw [ByteArray.toList_eq]
  simp [isV, floatV, h]
theorem cmpV_floats (a b : Nat) : cmpV (floatV a) (floatV b) = cmpN (ordN a) (ordN b) := by
  have h1 : cmpI 5 5 = 0 := by decide
  have h2 : cmpI 0 0 = 0 := by decide
  have h3 : cmpB ⟨#[]⟩ ⟨#[]⟩ = 0 := by decide
  unfold cmpV floatV
  dsimp only
  rw [h1, h2, h3]
  rfl
def Sc (a b : Nat) (c : Int) : Prop :=
  ((FloatKind.f64.format.order a b == some .lt) = true ∧ c = -1) ∨
  ((FloatKind.f64.format.order a b == some .lt) = false ∧ (FloatKind.f64.format.order a b == some .eq) = true) ∨
  ((FloatKind.f64.format.order a b == some .lt) = false ∧ (FloatKind.f64.format.order a b == some .eq) = false ∧ (FloatKind.f64.format.order a a == some .eq) = false ∧ (FloatKind.f64.format.order a a != some .eq) = true) ∨
  ((FloatKind.f64.format.order a b == some .lt) = false ∧ (FloatKind.f64.format.order a b == some .eq) = false ∧ (FloatKind.f64.format.order a a == some .eq) = true ∧ (FloatKind.f64.format.order a a != some .eq) = false ∧ (FloatKind.f64.format.order b b == some .eq) = false ∧ (FloatKind.f64.format.order b b != some .eq) = true) ∨
  ((FloatKind.f64.format.order a b == some .lt) = false ∧ (FloatKind.f64.format.order a b == some .eq) = false ∧ (FloatKind.f64.format.order a a == some .eq) = true ∧ (FloatKind.f64.format.order a a != some .eq) = false ∧ (FloatKind.f64.format.order b b == some .eq) = true ∧ (FloatKind.f64.format.order b b != some .eq) = false ∧ c = 1)
theorem sc_of {a b : Nat} (ha : a < 18446744073709551616) (hb : b < 18446744073709551616) : Sc a b (cmpN (ordN a) (ordN b)) := by
  have hs : ∀ x y, FloatKind.f64.format.order x y = Ieee.double.order x y := fun x y => rfl
  unfold Sc
  rw [hs, hs, hs]
  cases na : isNanN a with
  | true =>
    rw [order_nan (.inl na), order_nan (.inl na)]
    exact .inr (.inr (.inl ⟨by decide, by decide, by decide, by decide⟩))
  | false =>
    have ea : Ieee.double.order a a = some .eq := by rw [order_eq ha ha na na, compare_eq rfl]
    cases nb : isNanN b with
    | true =>
      rw [order_nan (.inr nb), ea, order_nan (.inr nb)]
      exact .inr (.inr (.inr (.inl ⟨by decide, by decide, by decide, by decide, by decide, by decide⟩)))
    | false =>
      have eb : Ieee.double.order b b = some .eq := by rw [order_eq hb hb nb nb, compare_eq rfl]
      rw [ea, eb, order_eq ha hb na nb]
      rcases Int.lt_trichotomy (valN a) (valN b) with h | h | h
      · rw [compare_lt h]; exact .inl ⟨by decide, (by have := valN_ord ha hb h; unfold cmpN; rw [if_pos this])⟩
      · rw [compare_eq h]; exact .inr (.inl ⟨by decide, by decide⟩)
      · rw [compare_gt h]
        refine .inr (.inr (.inr (.inr ⟨by decide, by decide, by decide, by decide, by decide, by decide, ?_⟩)))
        have := valN_ord hb ha h
        unfold cmpN; rw [if_neg (by omega), if_pos this]
def Holds (W : World) (g a b : Nat) (w : World) : Prop :=
  Below W.heap.size W w ∧ w.cell? ⟨g, 0, none⟩ = some (.int .i64 5) ∧ w.cell? ⟨g, 1, none⟩ = some (.int .i64 0) ∧ w.cell? ⟨g, 2, none⟩ = some (.string ⟨#[]⟩) ∧ w.cell? ⟨g, 3, none⟩ = some (.float .f64 a) ∧
  w.cell? ⟨g + 1, 0, none⟩ = some (.int .i64 5) ∧ w.cell? ⟨g + 1, 1, none⟩ = some (.int .i64 0) ∧ w.cell? ⟨g + 1, 2, none⟩ = some (.string ⟨#[]⟩) ∧ w.cell? ⟨g + 1, 3, none⟩ = some (.float .f64 b)
theorem Holds.of {W : World} {g a b : Nat} (hx : g < W.heap.size) (hy : g + 1 < W.heap.size) (cx : ValAt W g 0 ⟨5, 0, ⟨#[]⟩, a⟩) (cy : ValAt W (g + 1) 0 ⟨5, 0, ⟨#[]⟩, b⟩) {w : World} (h : Below W.heap.size W w) : Holds W g a b w := by
  obtain ⟨c0, c1, c2, c3⟩ := cx
  obtain ⟨d0, d1, d2, d3⟩ := cy
  have e := fun (p : Addr) (hp : p.block < W.heap.size) => h.cell (p := p) hp
  exact ⟨h, (e _ hx).trans c0, (e _ hx).trans c1, (e _ hx).trans c2, (e _ hx).trans c3, (e _ hy).trans d0, (e _ hy).trans d1, (e _ hy).trans d2, (e _ hy).trans d3⟩
set_option maxHeartbeats 8000000 in
theorem walk_ValueFloats (a b : Nat) (ha : a < 18446744073709551616) (hb : b < 18446744073709551616) (w : World) :
    Gives Try.prog 12 #[.int .u64 a, .int .u64 b] w (.bool true) := by
  have FL : ∀ W m, Gives Try.prog 37 #[.int .u64 (m : Nat)] W (.agg #[.int .i64 5, .int .i64 0, .string ⟨#[]⟩, .float .f64 m]) := fun W m => float_any m W
  go_enter Try.func12, Try.ntmps12
  go_wp2_with fail
  refine (known2 _).mono' ?_; intro x0
  go_wp2_with fail
  refine (FL _ _).mono' ?_; intro x1
  go_wp2_with fail
  refine (FL _ _).mono' ?_; intro x2
  go_wp2_with fail
  generalize (x0.and x1).and x2 = xx at *
  have vx : ValsIn (((more w xx).alloc (.cells #[.int .i64 5, .int .i64 0, .string ⟨#[]⟩, .float .f64 a] 36)).alloc (.cells #[.int .i64 5, .int .i64 0, .string ⟨#[]⟩, .float .f64 b] 36)) (some ⟨w.heap.size + xx.objs.size, 0, none⟩) [⟨5, 0, ⟨#[]⟩, a⟩] := (by repeat (first | (with_reducible refine valsIn1 ?_; simp [more_size]; done) | (with_reducible refine valsIn2 ?_; simp [more_size]; done) | (with_reducible refine valsIn3 ?_; simp [more_size]; done) | (with_reducible refine ValsIn.alloc ?_ _) | (with_reducible refine ValsIn.drew ?_) | (with_reducible refine ValsIn.more ?_ _)))
  have vy : ValsIn (((more w xx).alloc (.cells #[.int .i64 5, .int .i64 0, .string ⟨#[]⟩, .float .f64 a] 36)).alloc (.cells #[.int .i64 5, .int .i64 0, .string ⟨#[]⟩, .float .f64 b] 36)) (some ⟨w.heap.size + xx.objs.size + 1, 0, none⟩) [⟨5, 0, ⟨#[]⟩, b⟩] := (by repeat (first | (with_reducible refine valsIn1 ?_; simp [more_size]; done) | (with_reducible refine valsIn2 ?_; simp [more_size]; done) | (with_reducible refine valsIn3 ?_; simp [more_size]; done) | (with_reducible refine ValsIn.alloc ?_ _) | (with_reducible refine ValsIn.drew ?_) | (with_reducible refine ValsIn.more ?_ _)))
  have bw : Below w.heap.size w (((more w xx).alloc (.cells #[.int .i64 5, .int .i64 0, .string ⟨#[]⟩, .float .f64 a] 36)).alloc (.cells #[.int .i64 5, .int .i64 0, .string ⟨#[]⟩, .float .f64 b] 36)) := (by repeat (first | (with_reducible exact Below.refl _ _) | (with_reducible refine Below.drew ?_) | (with_reducible refine Below.alloc ?_ (by simp [more_size]; try omega) _) | (with_reducible refine Below.setCell ?_ (by simp [more_size]; try omega) _) | (with_reducible refine below_more ?_ _ (by simp [more_size]; try omega))))
  generalize (((more w xx).alloc (.cells #[.int .i64 5, .int .i64 0, .string ⟨#[]⟩, .float .f64 a] 36)).alloc (.cells #[.int .i64 5, .int .i64 0, .string ⟨#[]⟩, .float .f64 b] 36)) = W at vx vy bw ⊢
  generalize w.heap.size + xx.objs.size = g at *
  obtain ⟨_, _, e, hx, cx⟩ := vx 0 (by simp)
  injection e with e; injection e with e1 e2; subst e1; subst e2
  obtain ⟨_, _, e, hy, cy⟩ := vy 0 (by simp)
  injection e with e; injection e with e1 e2; subst e1; subst e2
  obtain ⟨cx0, cx1, cx2, cx3⟩ := cx 0 (by simp)
  obtain ⟨cy0, cy1, cy2, cy3⟩ := cy 0 (by simp)
  have vxc := cx 0 (by simp)
  have vyc := cy 0 (by simp)
  clear vx vy cx cy
  replace cx0 := fun y => (more_cell W y _ hx).trans cx0
  replace cx1 := fun y => (more_cell W y _ hx).trans cx1
  replace cx2 := fun y => (more_cell W y _ hx).trans cx2
  replace cx3 := fun y => (more_cell W y _ hx).trans cx3
  replace cy0 := fun y => (more_cell W y _ hy).trans cy0
  replace cy1 := fun y => (more_cell W y _ hy).trans cy1
  replace cy2 := fun y => (more_cell W y _ hy).trans cy2
  replace cy3 := fun y => (more_cell W y _ hy).trans cy3
  simp only [Nat.zero_mul, Nat.zero_add, List.getElem_cons_zero] at cx0 cx1 cx2 cx3 cy0 cy1 cy2 cy3
  refine wp_region_more (by kernel_rfl) (by kernel_rfl) ?_
  repeat (go_big_quiet_step (fail))
  refine wpQuiet_nil ?_
  rintro _ ⟨y, rfl⟩
  have okA := floatV_ok ha
  have okB := floatV_ok hb
  have IS : ∀ W, Gives Try.prog 35 #[.agg #[.int .i64 5, .int .i64 0, .string ⟨#[]⟩, .float .f64 a]] W (.bool true) := fun W => by
    have := is_v (floatV a) okA W
    rw [floatV_is] at this
    exact this
  have CM : ∀ W, Gives Try.prog 31 #[.agg #[.int .i64 5, .int .i64 0, .string ⟨#[]⟩, .float .f64 a], .agg #[.int .i64 5, .int .i64 0, .string ⟨#[]⟩, .float .f64 b]] W (.int .i64 (cmpN (ordN a) (ordN b))) := fun W => by
    have := comparev_any (floatV a) (floatV b) okA okB W
    rw [cmpV_floats] at this
    exact this
  have hs := Lib.hid (sc_of ha hb)
  generalize cmpN (ordN a) (ordN b) = c at *
  replace IS := Lib.hid IS
  by_cases hab : a = b
  · subst hab
    have SM : ∀ W, Gives Try.prog 32 #[.agg #[.int .i64 5, .int .i64 0, .string ⟨#[]⟩, .float .f64 a], .agg #[.int .i64 5, .int .i64 0, .string ⟨#[]⟩, .float .f64 a]] W (.bool true) := fun W => by
      have := same_v (floatV a) (floatV a) okA okA W
      rw [cmpV_refl] at this
      exact this
    have HS : ∀ (W : World) (g : Nat) (h : ValsIn W (some ⟨g, 0, none⟩) [⟨5, 0, ⟨#[]⟩, a⟩]), Gives Try.prog 38 #[.slice (some ⟨g, 0, none⟩) 1 1] W (.int .u64 (hashV [⟨5, 0, ⟨#[]⟩, a⟩])) := fun W g h =>
      hash_any _ 1 [⟨5, 0, ⟨#[]⟩, a⟩] (fun y hy => by simp at hy; rw [hy]; exact okA) W (by simp) h
    generalize hashV [⟨5, 0, ⟨#[]⟩, a⟩] = k at HS
    have KEEP := Lib.hid (fun w' => @Holds.of W g a a hx hy vxc vyc w')
    replace SM := Lib.hid SM
    replace HS := Lib.hid HS
    replace CM := Lib.hid CM
    clear okA okB vxc vyc
    go_wp2_with fail
    go_region_held3 (fun w' => Below W.heap.size W w' ∧ w'.cell? ⟨g, 0, none⟩ = some (.int .i64 5) ∧ w'.cell? ⟨g, 1, none⟩ = some (.int .i64 0) ∧ w'.cell? ⟨g, 2, none⟩ = some (.string ⟨#[]⟩) ∧ w'.cell? ⟨g, 3, none⟩ = some (.float .f64 a) ∧
        w'.cell? ⟨g + 1, 0, none⟩ = some (.int .i64 5) ∧ w'.cell? ⟨g + 1, 1, none⟩ = some (.int .i64 0) ∧ w'.cell? ⟨g + 1, 2, none⟩ = some (.string ⟨#[]⟩) ∧ w'.cell? ⟨g + 1, 3, none⟩ = some (.float .f64 a))
      (exact KEEP.out _ (by repeat (first | assumption | exact Below.refl _ _ | with_reducible refine below_more' ?_ _ | with_reducible refine below_alloc' ?_ _ | with_reducible refine Below.drew ?_)))
      (first
        | (go_at_call 35; refine (IS.out _).mono' ?_; intro x)
        | (go_at_call 32; refine (SM.out _).mono' ?_; intro x)
        | (go_at_call 38; refine (HS.out _ _ (by repeat (first | (with_reducible refine valsIn1 ?_; simp [more_size]; done) | (with_reducible refine valsIn2 ?_; simp [more_size]; done) | (with_reducible refine valsIn3 ?_; simp [more_size]; done) | (with_reducible refine ValsIn.alloc ?_ _) | (with_reducible refine ValsIn.drew ?_) | (with_reducible refine ValsIn.more ?_ _)))).mono' ?_; intro x))
    all_goals
      refine to_more (W := W) (by repeat (first | exact Below.refl _ _ | with_reducible refine below_more' ?_ _ | with_reducible refine below_alloc' ?_ _ | with_reducible refine Below.drew ?_)) ?_
      intro z
      rcases hs.out with ⟨h1, rfl⟩ | ⟨h1, h2⟩ | ⟨h1, h2, h3, h4⟩ | ⟨h1, h2, h3, h4, h5, h6⟩ | ⟨h1, h2, h3, h4, h5, h6, rfl⟩
    all_goals
      clear hs
      try (exact absurd (h2.symm.trans h3) (by decide))
    all_goals
      go_wp2_with fail
      first
        | (go_ret; exact ⟨rfl, more_of_below (below_more bw _ bw.size)⟩)
        | (refine (CM.out _).mono' ?_; intro xc; go_wp2; go_ret; exact ⟨rfl, more_of_below (below_more bw _ bw.size)⟩)
  · have hne : ((a : Int) == (b : Int)) = false := by rw [beq_eq_false_iff_ne]; omega
    have SM : ∀ W, Gives Try.prog 32 #[.agg #[.int .i64 5, .int .i64 0, .string ⟨#[]⟩, .float .f64 a], .agg #[.int .i64 5, .int .i64 0, .string ⟨#[]⟩, .float .f64 b]] W (.bool false) := fun W => by
      have := same_v (floatV a) (floatV b) okA okB W
      have e : (cmpV (floatV a) (floatV b) == 0) = false := by
        rw [beq_eq_false_iff_ne]
        intro h
        have := cmpV_zero okA okB h
        injection this with _ _ _ h4
        exact hab h4
      rw [e] at this
      exact this
    replace SM := Lib.hid SM
    replace CM := Lib.hid CM
    clear okA okB vxc vyc
    go_wp2_with fail
    refine wp_region_more2 (by kernel_rfl) (by kernel_rfl) ?_
    repeat (go_big_quiet_step ((first
        | (go_at_call 35; exact (IS.out _).at_)
        | (go_at_call 32; exact (SM.out _).at_))))
    refine wpQuiet_nil ?_
    rintro _ ⟨z, rfl⟩
    rcases hs.out with ⟨h1, rfl⟩ | ⟨h1, h2⟩ | ⟨h1, h2, h3, h4⟩ | ⟨h1, h2, h3, h4, h5, h6⟩ | ⟨h1, h2, h3, h4, h5, h6, rfl⟩
    all_goals
      clear hs
      try (exact absurd (h2.symm.trans h3) (by decide))
    all_goals
      go_wp2_with fail
      first
        | (go_ret; exact ⟨rfl, more_of_below (below_more bw _ bw.size)⟩)
        | (refine (CM.out _).mono' ?_; intro xc; go_wp2; go_ret; exact ⟨rfl, more_of_below (below_more bw _ bw.size)⟩)
theorem law_ValueFloats (v0 v1 : Value) (w : World) (h0 : IsU64 v0) (h1 : IsU64 v1) :
    Calls Try.prog 12 #[v0, v1] w fun e w' => e = .returned (.bool true) ∧ Below w.heap.size w w' := by
  obtain ⟨a, rfl, ha⟩ := h0
  obtain ⟨b, rfl, hb⟩ := h1
  exact law_of (walk_ValueFloats a b ha hb w)
end Go.Proofs.Ytdnhldmdjbalgaa
