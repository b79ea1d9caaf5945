/- Package pred: which of two rows stands ahead. -/
import Derived.Test.YthmnaocoogfidaaPred
import Derived.Test.YthmnaocoogfidaaIs
import Derived.Test.YthmnaocoogfidaaOrdP
set_option maxRecDepth 100000
set_option linter.unusedVariables false
set_option linter.unusedSimpArgs false
namespace Go.Proofs.Ythmnaocoogfidaa
open Go.RowKit
attribute [local go_sem] run_frombits run_tobits more_more more_drew more_drewN more_size more_cell more_frozen run_store_float lt_c1 le_c1 lt_s1 le_s1 lt_c2 le_c2 lt_s2 le_s2 lt_c3 le_c3 lt_s3 le_s3 lt_c4 le_c4 lt_s4 le_s4 lt_c5 le_c5 lt_s5 le_s5 lt_c6 le_c6 lt_s6 le_s6 lt_c7 le_c7 lt_s7 le_s7 lt_c8 le_c8 lt_s8 le_s8 lt_c9 le_c9 lt_s9 le_s9 lt_c10 le_c10 lt_s10 le_s10 lt_c11 le_c11 lt_s11 le_s11 lt_c12 le_c12 lt_s12 le_s12 le_c0

structure Ord where
  f : Int
  d : Bool
def ordC (o : Ord) : List Value := [.int .i64 o.f, .bool o.d]
theorem ordC_len (o : Ord) : (ordC o).length = 2 := rfl
def ofL (l : List Val) (f : Int) : List Val := if f < 0 then [] else (l.drop f.toNat).take 1
def befL : List Ord → List Val → List Val → Int → Int → Bool
  | [], _, _, i, j => decide (i < j)
  | o :: os, a, b, i, j => if rowsV (ofL a o.f) (ofL b o.f) = 0 then befL os a b i j else (decide (rowsV (ofL a o.f) (ofL b o.f) < 0) != o.d)
theorem ofL_out (l : List Val) (f : Int) (h : f < 0 ∨ (l.length : Int) ≤ f) : ofL l f = [] := by
  unfold ofL
  rcases h with h | h
  · rw [if_pos h]
  · split
    · rfl
    · rw [List.drop_eq_nil_of_le (by omega)]; rfl
theorem ofL_in (l : List Val) (k : Nat) (h : k < l.length) : ofL l (k : Int) = [l[k]] := by
  unfold ofL
  rw [if_neg (by omega), Int.toNat_natCast, List.drop_eq_getElem_cons h]; rfl
theorem ofL_ok {l : List Val} (h : allOk l) (f : Int) : allOk (ofL l f) := by
  intro y hy
  unfold ofL at hy
  split at hy
  · cases hy
  · exact h y (List.mem_of_mem_drop (List.mem_of_mem_take hy))
theorem vals_one {w : World} {A : Option Addr} {l : List Val} (h : ValsIn w A l) (k : Nat) (hk : k < l.length) : ∃ b off, A = some ⟨b, off, none⟩ ∧ ∀ W, Below w.heap.size w W → ValsIn W (some ⟨b, off + k * 4, none⟩) [l[k]] := by
  obtain ⟨b, off, rfl, hb, hc⟩ := h k hk
  refine ⟨b, off, rfl, fun W hW => ?_⟩
  have : ValsIn w (some ⟨b, off + k * 4, none⟩) [l[k]] := fun j hj => by
    refine ⟨b, off + k * 4, rfl, hb, fun i hi => ?_⟩
    have hi0 : i = 0 := by simp at hi; omega
    subst hi0
    simpa using hc k hk
  exact this.below hW
set_option maxHeartbeats 400000 in
theorem less64_any (i j : Int) (w : World) : Calls Try.prog 67 #[.int .i64 i, .int .i64 j] w fun e w' => e = .returned (.bool (decide (i < j))) ∧ w = w' := by
  go_enter Try.func67, Try.ntmps67
  go_wp2
  all_goals (go_ret; exact ⟨rfl, rfl⟩)
set_option maxHeartbeats 400000 in
theorem of_out (A : Option Addr) (ca n : Nat) (f : Int) (w : World) (h : f < 0 ∨ (n : Int) ≤ f) :
    Calls Try.prog 66 #[.slice A n ca, .int .i64 f] w fun e w' => e = .returned (.slice none 0 0) ∧ w = w' := by
  rcases h with h | h
  · go_enter Try.func66, Try.ntmps66
    go_wp2
    go_ret
    exact ⟨rfl, rfl⟩
  · by_cases h0 : f < 0
    · go_enter Try.func66, Try.ntmps66
      go_wp2
      go_ret
      exact ⟨rfl, rfl⟩
    · go_enter Try.func66, Try.ntmps66
      go_wp2
      go_ret
      exact ⟨rfl, rfl⟩
set_option maxHeartbeats 400000 in
theorem of_in (b off ca n k : Nat) (w : World) (h : k < n) (hc : n ≤ ca) (hm : ca ≤ 9223372036854775807) :
    Calls Try.prog 66 #[.slice (some ⟨b, off, none⟩) n ca, .int .i64 (k : Int)] w fun e w' => e = .returned (.slice (some ⟨b, off + k * 4, none⟩) 1 (ca - k)) ∧ w = w' := by
  have h0 : ¬ (k : Int) < 0 := by omega
  have h1 : ¬ (n : Int) ≤ k := by omega
  have h2 : (k : Int) + 1 ≤ (ca : Int) := by omega
  have h3 : ¬ ca = k := by omega
  have h4 : (k : Int) ≤ (k : Int) + 1 := by omega
  go_enter Try.func66, Try.ntmps66
  go_wp2
  go_ret
  refine ⟨?_, rfl⟩
  congr 1
/-- what 'of' gives: a slice that reads as the row of one value -/
def OfIs (w : World) (A : Option Addr) (n ca : Nat) (f : Int) (l : List Val) (B : Option Addr) (m c : Nat) : Prop :=
  (∀ W, Calls Try.prog 66 #[.slice A n ca, .int .i64 f] W fun e w' => e = .returned (.slice B m c) ∧ W = w') ∧ l.length = m ∧ m ≤ 1 ∧ ∀ W, Below w.heap.size w W → ValsIn W B l
theorem ofr_any (A : Option Addr) (ca : Nat) (l : List Val) (f : Int) (w : World) (hc : l.length ≤ ca) (hm : ca ≤ 9223372036854775807) (ha : ValsIn w A l) : ∃ B m c, OfIs w A l.length ca f (ofL l f) B m c := by
  by_cases h : f < 0 ∨ (l.length : Int) ≤ f
  · rw [ofL_out l f h]
    exact ⟨none, 0, 0, fun W => of_out A ca l.length f W h, rfl, by omega, fun W _ j hj => by simp at hj⟩
  · obtain ⟨k, rfl⟩ := Int.eq_ofNat_of_zero_le (show 0 ≤ f by omega)
    have hk : k < l.length := by omega
    obtain ⟨b, off, rfl, hv⟩ := vals_one ha k hk
    rw [ofL_in l k hk]
    exact ⟨_, 1, _, fun W => of_in b off ca l.length k W hk hc hm, rfl, by omega, hv⟩
def rowV (id ver : Int) (A : Option Addr) (n ca : Nat) : Value := .agg #[.int .i64 id, .int .i64 ver, .slice A n ca]
set_option maxHeartbeats 4000000 in
theorem before_any (C : Option Addr) (cc n : Nat) (os : List Ord) (hn : os.length = n) (ln : n ≤ 9223372036854775807) (i j vi vj : Int)
    (A B : Option Addr) (ca cb : Nat) (a b : List Val) (hA : allOk a) (hB : allOk b) (w : World) (la : a.length ≤ ca) (lca : ca ≤ 9223372036854775807) (lb : b.length ≤ cb) (lcb : cb ≤ 9223372036854775807)
    (hc : RowIn ordC 2 w C os) (ha : ValsIn w A a) (hb : ValsIn w B b) :
    Gives Try.prog 25 #[.slice C n cc, .agg #[.int .i64 i, .int .i64 vi, .slice A a.length ca], .agg #[.int .i64 j, .int .i64 vj, .slice B b.length cb]] w (.bool (befL os a b i j)) := by
  subst hn
  have HA := Lib.hid ha; clear ha
  have HB := Lib.hid hb; clear hb
  have HC := Lib.hid hc; clear hc
  replace hA := Lib.hid hA
  replace hB := Lib.hid hB
  go_enter Try.func25, Try.ntmps25
  go_wp2
  refine wp_named (R := fun W => Below w.heap.size w W ∧ w.heap.size + 1 < W.heap.size ∧ (W.cell? ⟨w.heap.size, 0, none⟩ = some (.int .i64 i) ∧ W.cell? ⟨w.heap.size, 2, none⟩ = some (.slice A a.length ca)) ∧
    (W.cell? ⟨w.heap.size + 1, 0, none⟩ = some (.int .i64 j) ∧ W.cell? ⟨w.heap.size + 1, 2, none⟩ = some (.slice B b.length cb))) ⟨(by repeat (first | (with_reducible exact Below.refl _ _) | (with_reducible refine Below.drew ?_) | (with_reducible refine Below.alloc ?_ (by simp [more_size]; try omega) _) | (with_reducible refine Below.setCell ?_ (by simp [more_size]; try omega) _) | (with_reducible refine below_more ?_ _ (by simp [more_size]; try omega)))), by simp, ⟨by simp [go_sem], by simp [go_sem]⟩, by simp [go_sem], by simp [go_sem]⟩ ?_
  rintro W ⟨bW, sW, ⟨d0, d2⟩, e0, e2⟩
  have sW0 : w.heap.size < W.heap.size := by omega
  have D0 := fun y => (more_cell W y _ sW0).trans d0
  have D2 := fun y => (more_cell W y _ sW0).trans d2
  have E0 := fun y => (more_cell W y _ sW).trans e0
  have E2 := fun y => (more_cell W y _ sW).trans e2
  replace HA := Lib.hid (HA.out.below bW)
  replace HB := Lib.hid (HB.out.below bW)
  replace HC := Lib.hid (HC.out.below bW)
  replace bW := Lib.hid bW
  go_loopw [12] (fun t wr => ∃ (k : Nat) (x : Ext), k ≤ os.length ∧ t = .int .i64 k ∧ Hid (befL (os.drop k) a b i j = befL os a b i j) ∧ more W x = wr) (fun t _ => os.length - (intOf t).toNat)
  case atStart => exact ⟨0, _, by omega, rfl, Lib.hid rfl, more_self W⟩
  case round =>
    obtain ⟨k, x, hk, rfl, hr, rfl⟩ := hrel
    by_cases h1 : k < os.length
    · have h1' : (k : Int) < (os.length : Int) := by omega
      obtain ⟨cb', off, rfl, hbl, hcb⟩ := HC.out k h1
      have hm := hcb k h1
      clear hcb
      have HS := Lib.hid (show (if rowsV (ofL a os[k].f) (ofL b os[k].f) = 0 then befL (os.drop (k + 1)) a b i j else (decide (rowsV (ofL a os[k].f) (ofL b os[k].f) < 0) != os[k].d)) = befL os a b i j by
        rw [← hr.out, List.drop_eq_getElem_cons h1]; rfl)
      have C0 := fun y => (more_cell W y _ hbl).trans (hm 0 _ rfl)
      have C1 := fun y => (more_cell W y _ hbl).trans (hm 1 _ rfl)
      simp only [Nat.add_zero] at C0
      clear hm
      generalize os[k] = o at *
      obtain ⟨f, d⟩ := o
      dsimp only at *
      obtain ⟨A1, m1, c1, o1, q1, r1, v1⟩ := ofr_any A ca a f W la lca HA.out
      obtain ⟨B1, m2, c2, o2, q2, r2, v2⟩ := ofr_any B cb b f W lb lcb HB.out
      have RW := fun w' x1 x2 => rows_any A1 B1 c1 c2 (ofL a f) (ofL b f) (ofL_ok hA.out f) (ofL_ok hB.out f) w' (by omega) (by omega) x1 x2
      rw [q1, q2] at RW
      generalize rowsV (ofL a f) (ofL b f) = rv at *
      replace RW := Lib.hid RW
      replace o1 := Lib.hid o1
      replace o2 := Lib.hid o2
      replace v1 := Lib.hid v1
      replace v2 := Lib.hid v2
      clear q1 q2
      go_wp2_with fail
      refine wp_named (R := fun W2 => Below W.heap.size W W2 ∧ W.heap.size + x.objs.size < W2.heap.size ∧ W2.cell? ⟨W.heap.size + x.objs.size, 0, none⟩ = some (.int .i64 f) ∧ W2.cell? ⟨W.heap.size + x.objs.size, 1, none⟩ = some (.bool d)) ⟨(by repeat (first | (with_reducible exact Below.refl _ _) | (with_reducible refine Below.drew ?_) | (with_reducible refine Below.alloc ?_ (by simp [more_size]; try omega) _) | (with_reducible refine Below.setCell ?_ (by simp [more_size]; try omega) _) | (with_reducible refine below_more ?_ _ (by simp [more_size]; try omega)))), by simp [more_size], by simp [go_sem, more_size], by simp [go_sem, more_size]⟩ ?_
      rintro W2 ⟨bW2, sW2, g0, g1⟩
      have G0 := fun y => (more_cell W2 y _ sW2).trans g0
      have G1 := fun y => (more_cell W2 y _ sW2).trans g1
      have sA : w.heap.size < W2.heap.size := Nat.lt_of_lt_of_le sW0 bW2.size
      have sB : w.heap.size + 1 < W2.heap.size := Nat.lt_of_lt_of_le sW bW2.size
      have F2 := fun y => (more_cell W2 y _ sA).trans ((bW2.cell (p := ⟨w.heap.size, 2, none⟩) sW0).trans d2)
      have F3 := fun y => (more_cell W2 y _ sB).trans ((bW2.cell (p := ⟨w.heap.size + 1, 2, none⟩) sW).trans e2)
      replace bW2 := Lib.hid bW2
      have ofa := Lib.hid (fun y => gives_of_same (o1.out (more W2 y)))
      have ofb := Lib.hid (fun y => gives_of_same (o2.out (more W2 y)))
      refine wp_region_more (by kernel_rfl) (by kernel_rfl) ?_
      repeat (go_big_quiet_step ((first
        | (go_at_call 66; with_reducible exact (ofa.out _).at_)
        | (go_at_call 66; with_reducible exact (ofb.out _).at_)
        | (go_at_call 65; exact (RW.out _ (v1.out _ (bW2.out.trans ((more_below W2 _).mono bW2.out.size))) (v2.out _ (bW2.out.trans ((more_below W2 _).mono bW2.out.size)))).at_))))
      refine wpQuiet_nil ?_
      rintro _ ⟨y, rfl⟩
      rcases (show rv = 0 ∨ rv < 0 ∨ 0 < rv by omega) with hz | hz | hz
      · have z1 : (rv != 0) = false := by rw [hz]; rfl
        have HS2 := HS.out
        rw [if_pos hz] at HS2
        replace HS2 := Lib.hid HS2
        replace hz := Lib.hid hz
        go_wp2
        obtain ⟨x', e⟩ := more_of_below (below_more bW2.out y bW2.out.size)
        exact ⟨⟨k + 1, x', by omega, by go_num, HS2, e.symm⟩, by simp [intOf]; omega⟩
      · have z1 : (rv != 0) = true := by rw [bne_iff_ne]; omega
        have HS2 := HS.out
        rw [if_neg (by omega), decide_eq_true hz] at HS2
        replace HS2 := Lib.hid HS2
        cases d
        all_goals
          go_wp2
          go_ret
          refine ⟨ret_bool ?_, more_of_below ?_⟩
          · exact HS2.out
          · exact bW.out.trans (((bW2.out).trans ((more_below W2 _).mono bW2.out.size)).mono (Nat.le_of_lt sW0))
      · have z1 : (rv != 0) = true := by rw [bne_iff_ne]; omega
        have z2 : ¬ rv < 0 := by omega
        have HS2 := HS.out
        rw [if_neg (by omega), decide_eq_false z2] at HS2
        replace HS2 := Lib.hid HS2
        cases d
        all_goals
          go_wp2
          go_ret
          refine ⟨ret_bool ?_, more_of_below ?_⟩
          · exact HS2.out
          · exact bW.out.trans (((bW2.out).trans ((more_below W2 _).mono bW2.out.size)).mono (Nat.le_of_lt sW0))
    · have h1' : ¬ (k : Int) < (os.length : Int) := by omega
      have e := hr.out
      rw [List.drop_eq_nil_of_le (by omega)] at e
      replace e := Lib.hid (show decide (i < j) = befL os a b i j from e)
      go_wp2_with (first | (go_at_call 67; refine (less64_any _ _ _).mono ?_; rintro e w' ⟨rfl, rfl⟩) | fail)
      go_ret
      exact ⟨ret_bool e.out, more_of_below (bW.out.trans ((more_below W _).mono (Nat.le_of_lt sW0)))⟩
end Go.Proofs.Ythmnaocoogfidaa
