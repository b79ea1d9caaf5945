/- PredOrder: rows with unlike numbers stand one ahead of the other, in an order. -/
import Derived.Test.YthmnaocoogfidaaPorderP
import Derived.Test.YthmnaocoogfidaaKnown20
import Derived.Test.YthmnaocoogfidaaOpenS
set_option maxRecDepth 100000
set_option linter.unusedVariables false
set_option linter.unusedSimpArgs false
namespace Go.Proofs.Ythmnaocoogfidaa
open Go.RowKit Go.Joins Go.ChangeShapes Go.WideShapes Go.Deep
attribute [local go_sem] run_frombits run_tobits more_more more_drew more_drewN more_size more_cell more_frozen run_store_float lt_c1 le_c1 lt_s1 le_s1 lt_c2 le_c2 lt_s2 le_s2 lt_c3 le_c3 lt_s3 le_s3 lt_c4 le_c4 lt_s4 le_s4 lt_c5 le_c5 lt_s5 le_s5 lt_c6 le_c6 lt_s6 le_s6 lt_c7 le_c7 lt_s7 le_s7 lt_c8 le_c8 lt_s8 le_s8 lt_c9 le_c9 lt_s9 le_s9 lt_c10 le_c10 lt_s10 le_s10 lt_c11 le_c11 lt_s11 le_s11 lt_c12 le_c12 lt_s12 le_s12 le_c0

section
variable {H : Type} {enc : TypeId × Value → H} {w : World} {base : Nat} {spare : Nat → Bool} {held : Bool} {r : Reach} {b0 : Nat} {v : Value} {d : DataW H} {p : List MemPlace}
theorem is_api_Orders (hv : Value.okWide Try.prog w r b0 45 v) (h : DataW.Trod enc Try.prog w base spare held 45 v d p) : IsRow ordC 2 (fun _ => True) w v :=
  row_open (by decide) (fun _ => rfl) Try.underlying45 (by kernel_rfl) (fun n cs x h hl => by
    obtain ⟨y0, y1, m, _, _, h0, h1⟩ := trod_struct2 Try.underlying115 h
    match cs, hl with
    | [c0, c1], _ =>
      rw [cells_int] at h0
      rw [show Try.prog.cellsOf 4 = 1 by kernel_rfl] at h1
      obtain ⟨a, e0, _⟩ := read_int Try.underlying3 (show DataW.trod enc Try.prog w base spare held m 3 [c0] = some y0 from h0) rfl
      obtain ⟨b, e1⟩ := read_bool Try.underlying4 (show DataW.trod enc Try.prog w base spare held m 4 [c1] = some y1 from h1) rfl
      simp at e0 e1
      subst e0 e1
      exact ⟨⟨a, b⟩, rfl, trivial⟩) hv h
end
theorem few_no (A : Option Addr) (ca : Nat) (l : List Val) (n : Int) (w : World) (la : l.length ≤ 9223372036854775807) (ha : ValsIn w A l) (b : Bool) (hb : fewV l n = b) :
    ∀ W, Below w.heap.size w W → Calls Try.prog 24 #[.slice A l.length ca, .int .i64 n] W fun e w' => e = .returned (.bool b) ∧ W = w' := fun W h => by
  rw [← hb]; exact few_any A ca l n W la (ha.below h)
set_option maxHeartbeats 8000000 in
theorem walk_PredOrder (D A B C : Option Addr) (cd ca cb cc : Nat) (os : List Ord) (a b c : List Val) (ia ib ic va vb vc : Int) (w : World)
    (hA : allOk a) (hB : allOk b) (hC : allOk c) (ld : os.length ≤ cd) (lcd : cd ≤ 9223372036854775807) (la : a.length ≤ ca) (lca : ca ≤ 9223372036854775807) (lb : b.length ≤ cb) (lcb : cb ≤ 9223372036854775807) (lc : c.length ≤ cc) (lcc : cc ≤ 9223372036854775807)
    (ho : RowIn ordC 2 w D os) (ha : ValsIn w A a) (hb : ValsIn w B b) (hc : ValsIn w C c) :
    Gives Try.prog 8 #[.slice D os.length cd, .agg #[.int .i64 ia, .int .i64 va, .slice A a.length ca], .agg #[.int .i64 ib, .int .i64 vb, .slice B b.length cb], .agg #[.int .i64 ic, .int .i64 vc, .slice C c.length cc]] w (.bool true) := by
  obtain ⟨L1, L2, L3, L4⟩ := order_law os a b c
  have HO := Lib.hid ho
  have HA := Lib.hid ha
  have HB := Lib.hid hb
  have HC := Lib.hid hc
  have FA := fun b0 => few_no A ca a 12 w (by omega) ha b0
  have FB := fun b0 => few_no B cb b 12 w (by omega) hb b0
  have FC := fun b0 => few_no C cc c 12 w (by omega) hc b0
  clear ho ha hb hc
  have BF1 := Lib.hid (fun W (h : Below w.heap.size w W) va vb => before_any D cd os.length os rfl (by omega) 1 2 va vb A B ca cb a b hA hB W la lca lb lcb (HO.out.below h) (HA.out.below h) (HB.out.below h))
  have BF2 := Lib.hid (fun W (h : Below w.heap.size w W) va vb => before_any D cd os.length os rfl (by omega) 2 3 va vb B C cb cc b c hB hC W lb lcb lc lcc (HO.out.below h) (HB.out.below h) (HC.out.below h))
  have BF3 := Lib.hid (fun W (h : Below w.heap.size w W) va vb => before_any D cd os.length os rfl (by omega) 1 3 va vb A C ca cc a c hA hC W la lca lc lcc (HO.out.below h) (HA.out.below h) (HC.out.below h))
  have BF4 := Lib.hid (fun W (h : Below w.heap.size w W) va vb => before_any D cd os.length os rfl (by omega) 2 1 va vb B A cb ca b a hB hA W lb lcb la lca (HO.out.below h) (HB.out.below h) (HA.out.below h))
  have BF5 := Lib.hid (fun W (h : Below w.heap.size w W) va vb => before_any D cd os.length os rfl (by omega) 1 1 va vb A A ca ca a a hA hA W la lca la lca (HO.out.below h) (HA.out.below h) (HA.out.below h))
  rw [L1] at BF4
  rw [L2] at BF5
  generalize befL os a b 1 2 = x at *
  generalize befL os b c 2 3 = y at *
  generalize befL os a c 1 3 = z at *
  replace L3 := Lib.hid L3
  replace L4 := Lib.hid L4
  clear L1 L2 hA hB hC HO HA HB HC
  generalize hfa : fewV a 12 = fa at *
  generalize hfb : fewV b 12 = fb at *
  generalize hfc : fewV c 12 = fc at *
  replace FA := Lib.hid (FA _ rfl)
  replace FB := Lib.hid (FB _ rfl)
  replace FC := Lib.hid (FC _ rfl)
  clear hfa hfb hfc
  go_enter Try.func8, Try.ntmps8
  go_wp2_with fail
  refine calls_at (R := fun W => Below w.heap.size w W ∧ Blk W w.heap.size #[.int .i64 ia, .int .i64 va, .slice A a.length ca] 47 ∧ Blk W (w.heap.size + 1) #[.int .i64 ib, .int .i64 vb, .slice B b.length cb] 47 ∧ Blk W (w.heap.size + 2) #[.int .i64 ic, .int .i64 vc, .slice C c.length cc] 47)
    ⟨(by repeat (first | (with_reducible exact Below.refl _ _) | (with_reducible refine Below.drew ?_) | (with_reducible refine Below.alloc ?_ (by simp [more_size]; try omega) _) | (with_reducible refine Below.setCell ?_ (by simp [more_size]; try omega) _) | (with_reducible refine below_more ?_ _ (by simp [more_size]; try omega)))), ((Blk.new _ _ _ (by simp)).alloc _).alloc _, (Blk.new _ _ _ (by simp)).alloc _, Blk.new _ _ _ (by simp)⟩ ?_
  rintro W ⟨bW, k1, k2, k3⟩
  refine (known20 _).mono' ?_; intro x0
  replace k1 := k1.more x0
  replace k2 := k2.more x0
  replace k3 := k3.more x0
  replace bW := bW.trans ((more_below W x0).mono bW.size)
  generalize more W x0 = W1 at *
  have d12 : W1.cell? ⟨w.heap.size, 2, none⟩ = some (.slice A a.length ca) := k1.cell 2
  have d22 : W1.cell? ⟨w.heap.size + 1, 2, none⟩ = some (.slice B b.length cb) := k2.cell 2
  have d32 : W1.cell? ⟨w.heap.size + 2, 2, none⟩ = some (.slice C c.length cc) := k3.cell 2
  by_cases h8 : os.length ≤ 8
  · have h8' : ¬ (8 : Int) < (os.length : Int) := by omega
    cases fa with
    | false =>
      go_wp2_with fail
      refine (FA.out _ bW).mono ?_; rintro e w' ⟨rfl, rfl⟩
      go_wp2
      go_ret
      exact ⟨rfl, more_of_below bW⟩
    | true =>
      cases fb with
      | false =>
        go_wp2_with fail
        refine (FA.out _ bW).mono ?_; rintro e w' ⟨rfl, rfl⟩
        go_wp2_with fail
        refine (FB.out _ bW).mono ?_; rintro e w' ⟨rfl, rfl⟩
        go_wp2
        go_ret
        exact ⟨rfl, more_of_below bW⟩
      | true =>
        cases fc with
        | false =>
          go_wp2_with fail
          refine (FA.out _ bW).mono ?_; rintro e w' ⟨rfl, rfl⟩
          go_wp2_with fail
          refine (FB.out _ bW).mono ?_; rintro e w' ⟨rfl, rfl⟩
          go_wp2_with fail
          refine (FC.out _ bW).mono ?_; rintro e w' ⟨rfl, rfl⟩
          go_wp2
          go_ret
          exact ⟨rfl, more_of_below bW⟩
        | true =>
          have d10 : W1.cell? ⟨w.heap.size, 0, none⟩ = some (.int .i64 ia) := k1.cell 0
          have d20 : W1.cell? ⟨w.heap.size + 1, 0, none⟩ = some (.int .i64 ib) := k2.cell 0
          have d30 : W1.cell? ⟨w.heap.size + 2, 0, none⟩ = some (.int .i64 ic) := k3.cell 0
          have g10 := k1.free 0
          have g20 := k2.free 0
          have g30 := k3.free 0
          go_wp2_with fail
          refine (FA.out _ bW).mono ?_; rintro e w' ⟨rfl, rfl⟩
          go_wp2_with fail
          refine (FB.out _ bW).mono ?_; rintro e w' ⟨rfl, rfl⟩
          go_wp2_with fail
          refine (FC.out _ bW).mono ?_; rintro e w' ⟨rfl, rfl⟩
          go_wp2_with fail
          refine wp_named (R := fun W => Below w.heap.size w W ∧ Blk W w.heap.size #[.int .i64 1, .int .i64 va, .slice A a.length ca] 47 ∧ Blk W (w.heap.size + 1) #[.int .i64 2, .int .i64 vb, .slice B b.length cb] 47 ∧ Blk W (w.heap.size + 2) #[.int .i64 3, .int .i64 vc, .slice C c.length cc] 47)
            ⟨((bW.setCell (by dsimp only; omega) _).setCell (by dsimp only; omega) _).setCell (by dsimp only; omega) _, ((k1.set 0 _).set_other (by dsimp only; omega) _).set_other (by dsimp only; omega) _, ((k2.set_other (by dsimp only; omega) _).set 0 _).set_other (by dsimp only; omega) _, ((k3.set_other (by dsimp only; omega) _).set_other (by dsimp only; omega) _).set 0 _⟩ ?_
          clear k1 k2 k3 bW d10 d20 d30 g10 g20 g30 d12 d22 d32
          rintro W2 ⟨bW, k1, k2, k3⟩
          have c10 := fun y => (k1.more y).cell 0
          have c11 := fun y => (k1.more y).cell 1
          have c12 := fun y => (k1.more y).cell 2
          have c20 := fun y => (k2.more y).cell 0
          have c21 := fun y => (k2.more y).cell 1
          have c22 := fun y => (k2.more y).cell 2
          have c30 := fun y => (k3.more y).cell 0
          have c31 := fun y => (k3.more y).cell 1
          have c32 := fun y => (k3.more y).cell 2
          have bY := Lib.hid (fun y => bW.trans ((more_below W2 y).mono bW.size))
          replace bW := Lib.hid bW
          clear k1 k2 k3
          refine wp_region_more (by kernel_rfl) (by kernel_rfl) ?_
          repeat (go_big_quiet_step ((first
            | (go_at_call 25; with_reducible exact (BF1.out _ (bY.out _) _ _).at_)
            | (go_at_call 25; with_reducible exact (BF2.out _ (bY.out _) _ _).at_)
            | (go_at_call 25; with_reducible exact (BF3.out _ (bY.out _) _ _).at_))))
          refine wpQuiet_nil ?_
          rintro _ ⟨q, rfl⟩
          have fin : (x = true ∧ y = true ∧ z = true) ∨ (x = true ∧ y = false) ∨ (x = false ∧ y = true) ∨ (x = false ∧ y = false ∧ z = false) := by
            have := L3.out; have := L4.out
            cases x <;> cases y <;> cases z <;> simp_all
          rcases fin with ⟨rfl, rfl, rfl⟩ | ⟨rfl, rfl⟩ | ⟨rfl, rfl⟩ | ⟨rfl, rfl, rfl⟩
          all_goals try cases z
          all_goals
            go_wp2_with fail
            refine (BF4.out _ (bY.out _) _ _).mono' ?_; intro q1
            have bZ := Lib.hid (bY.out q)
            go_wp2_with fail
            refine (BF5.out _ (bY.out _) _ _).mono' ?_; intro q2
            go_wp2
            go_ret
            refine ⟨rfl, ?_⟩
            exact more_of_below (bY.out _)
  · have h8' : (8 : Int) < (os.length : Int) := by omega
    go_wp2
    go_ret
    exact ⟨rfl, more_of_below bW⟩
theorem law_PredOrder (v0 v1 v2 v3 : Value) (w : World) (h0 : IsRow ordC 2 (fun _ => True) w v0) (h1 : IsRw w v1) (h2 : IsRw w v2) (h3 : IsRw w v3) :
    Calls Try.prog 8 #[v0, v1, v2, v3] w fun e w' => e = .returned (.bool true) ∧ Below w.heap.size w w' := by
  obtain ⟨D, cd, os, rfl, o1, o2, o3, o4, o5⟩ := h0
  obtain ⟨ia, va, A, ca, a, rfl, a1, a2, a3, a4, a5, _⟩ := h1
  obtain ⟨ib, vb, B, cb, b, rfl, b1, b2, b3, b4, b5, _⟩ := h2
  obtain ⟨ic, vc, C, cc, c, rfl, c1, c2, c3, c4, c5, _⟩ := h3
  exact law_of (walk_PredOrder D A B C cd ca cb cc os a b c ia ib ic va vb vc w a4 b4 c4 o1 o2 a1 a2 b1 b2 c1 c2 o5 a5 b5 c5)
end Go.Proofs.Ythmnaocoogfidaa
