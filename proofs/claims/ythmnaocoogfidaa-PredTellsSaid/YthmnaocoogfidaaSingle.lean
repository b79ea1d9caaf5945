/- Package pred: whether a predicate may be. -/
import Derived.Test.YthmnaocoogfidaaRef20
import Derived.Test.YthmnaocoogfidaaRef5
set_option maxRecDepth 100000
set_option linter.unusedVariables false
set_option linter.unusedSimpArgs false
namespace Go.Proofs.Ythmnaocoogfidaa
open Go.RowKit
attribute [local go_sem] run_frombits run_tobits more_more more_drew more_drewN more_size more_cell more_frozen run_store_float lt_c1 le_c1 lt_s1 le_s1 lt_c2 le_c2 lt_s2 le_s2 lt_c3 le_c3 lt_s3 le_s3 lt_c4 le_c4 lt_s4 le_s4 lt_c5 le_c5 lt_s5 le_s5 lt_c6 le_c6 lt_s6 le_s6 lt_c7 le_c7 lt_s7 le_s7 lt_c8 le_c8 lt_s8 le_s8 lt_c9 le_c9 lt_s9 le_s9 lt_c10 le_c10 lt_s10 le_s10 lt_c11 le_c11 lt_s11 le_s11 lt_c12 le_c12 lt_s12 le_s12 le_c0

def kndAt (s : List Fld) (f : Int) : Int := (s[f.toNat]?.map Fld.k).getD 0
/-- whether a predicate may be -/
def sngB (s : List Fld) (p : Prd) : Bool :=
  if p.f < 0 then false else if (s.length : Int) ≤ p.f then false else if p.op < 1 then false else if 6 < p.op then false else if isV p.v = false then false else if (p.v.k == kndAt s p.f) = false then false
  else if p.op = 6 then p.v.k == 3 else true
set_option maxHeartbeats 8000000 in
theorem single_any (A : Option Addr) (ca n : Nat) (s : List Fld) (p : Prd) (hv : p.v.ok) (w : World) (hn : s.length = n) (la : n ≤ 9223372036854775807) (ha : FieldsIn w A s) :
    Gives Try.prog 70 #[.slice A n ca, predV p.f p.op p.v] w (.bool (sngB s p)) := by
  subst hn
  have IV := fun W => is_v p.v hv W
  obtain ⟨sb, HS⟩ : ∃ sb, sb = sngB s p := ⟨_, rfl⟩
  rw [← HS]
  unfold sngB at HS
  generalize isV p.v = iv at *
  obtain ⟨f, op, bk, bi, bst, bf⟩ := p
  unfold Val.v at IV
  unfold predV
  dsimp only at *
  replace IV := Lib.hid IV
  replace HS := Lib.hid HS
  have HA := Lib.hid ha
  clear hv ha
  go_enter Try.func70, Try.ntmps70
  go_wp2_with fail
  refine wp_named (R := fun W => Below w.heap.size w W ∧ Blk W w.heap.size #[.int .i64 f, .int .i64 op, .int .i64 bk, .int .i64 bi, .string bst, .float .f64 bf] 33) ⟨(by repeat (first | (with_reducible exact Below.refl _ _) | (with_reducible refine Below.drew ?_) | (with_reducible refine Below.alloc ?_ (by simp [more_size]; try omega) _) | (with_reducible refine Below.setCell ?_ (by simp [more_size]; try omega) _) | (with_reducible refine below_more ?_ _ (by simp [more_size]; try omega)))), Blk.new _ _ _ rfl⟩ ?_
  rintro W ⟨bW, k1⟩
  have c0 := fun y => (k1.more y).cell 0
  have c1 := fun y => (k1.more y).cell 1
  have c2 := fun y => (k1.more y).cell 2
  have c3 := fun y => (k1.more y).cell 3
  have c4 := fun y => (k1.more y).cell 4
  have c5 := fun y => (k1.more y).cell 5
  clear k1
  replace HS := HS.out
  have fin := Lib.hid (fun y => more_of_below (bW.trans ((more_below W y).mono bW.size)))
  by_cases h1 : f < 0
  · rw [if_pos h1] at HS
    subst HS
    have d1 : decide (0 ≤ f) = false := decide_eq_false (by omega)
    refine wp_region_more (by kernel_rfl) (by kernel_rfl) ?_
    repeat (go_big_quiet_step (fail))
    refine wpQuiet_nil ?_
    rintro _ ⟨y, rfl⟩
    go_wp2
    go_ret
    exact ⟨rfl, fin.out _⟩
  · obtain ⟨m, rfl⟩ := Int.eq_ofNat_of_zero_le (show 0 ≤ f by omega)
    rw [if_neg h1] at HS
    have d1 : decide (0 ≤ (m : Int)) = true := decide_eq_true (by omega)
    by_cases h2 : (s.length : Int) ≤ m
    · rw [if_pos h2] at HS
      subst HS
      have d2 : decide ((m : Int) < (s.length : Int)) = false := decide_eq_false (by omega)
      have d2' : decide (m < s.length) = false := decide_eq_false (by omega)
      refine wp_region_more (by kernel_rfl) (by kernel_rfl) ?_
      repeat (go_big_quiet_step (fail))
      refine wpQuiet_nil ?_
      rintro _ ⟨y, rfl⟩
      go_wp2
      go_ret
      exact ⟨rfl, fin.out _⟩
    · rw [if_neg h2] at HS
      have hm : m < s.length := by omega
      have hm' : (m : Int) < (s.length : Int) := by omega
      have d2 : decide ((m : Int) < (s.length : Int)) = true := decide_eq_true (by omega)
      have d2' : decide (m < s.length) = true := decide_eq_true hm
      by_cases h3 : op < 1
      · rw [if_pos h3] at HS
        subst HS
        have d3 : decide (1 ≤ op) = false := decide_eq_false (by omega)
        refine wp_region_more (by kernel_rfl) (by kernel_rfl) ?_
        repeat (go_big_quiet_step (fail))
        refine wpQuiet_nil ?_
        rintro _ ⟨y, rfl⟩
        go_wp2
        go_ret
        exact ⟨rfl, fin.out _⟩
      · rw [if_neg h3] at HS
        have d3 : decide (1 ≤ op) = true := decide_eq_true (by omega)
        by_cases h4 : 6 < op
        · rw [if_pos h4] at HS
          subst HS
          have d4 : decide (op ≤ 6) = false := decide_eq_false (by omega)
          refine wp_region_more (by kernel_rfl) (by kernel_rfl) ?_
          repeat (go_big_quiet_step (fail))
          refine wpQuiet_nil ?_
          rintro _ ⟨y, rfl⟩
          go_wp2
          go_ret
          exact ⟨rfl, fin.out _⟩
        · rw [if_neg h4] at HS
          have d4 : decide (op ≤ 6) = true := decide_eq_true (by omega)
          cases iv with
          | false =>
            rw [if_pos rfl] at HS
            subst HS
            refine wp_region_more (by kernel_rfl) (by kernel_rfl) ?_
            repeat (go_big_quiet_step ((go_at_call 107; exact (IV.out _).at_)))
            refine wpQuiet_nil ?_
            rintro _ ⟨y, rfl⟩
            go_wp2
            go_ret
            exact ⟨rfl, fin.out _⟩
          | true =>
            rw [if_neg (by decide)] at HS
            have hka : kndAt s (m : Int) = s[m].k := by unfold kndAt; rw [Int.toNat_natCast, List.getElem?_eq_getElem hm]; rfl
            rw [hka] at HS
            obtain ⟨b, off, rfl, hb, hcb⟩ := (HA.out.below bW) m hm
            obtain ⟨_, g1⟩ := hcb m hm
            replace g1 := fun y => (more_cell W y _ hb).trans g1
            clear hcb hka
            generalize s[m].k = kk at *
            cases h5 : (bk == kk) with
            | false =>
              rw [h5, if_pos rfl] at HS
              subst HS
              refine wp_region_more (by kernel_rfl) (by kernel_rfl) ?_
              repeat (go_big_quiet_step ((go_at_call 107; exact (IV.out _).at_)))
              refine wpQuiet_nil ?_
              rintro _ ⟨y, rfl⟩
              go_wp2
              go_ret
              exact ⟨rfl, fin.out _⟩
            | true =>
              rw [h5, if_neg (by decide)] at HS
              by_cases h6 : op = 6
              · subst h6
                rw [if_pos rfl] at HS
                subst HS
                cases h7 : (bk == 3)
                all_goals
                  refine wp_region_more (by kernel_rfl) (by kernel_rfl) ?_
                  repeat (go_big_quiet_step ((go_at_call 107; exact (IV.out _).at_)))
                  refine wpQuiet_nil ?_
                  rintro _ ⟨y, rfl⟩
                  go_wp2
                  go_ret
                  exact ⟨rfl, fin.out _⟩
              · rw [if_neg h6] at HS
                subst HS
                have d6 : (op != 6) = true := by rw [bne_iff_ne]; exact h6
                refine wp_region_more (by kernel_rfl) (by kernel_rfl) ?_
                repeat (go_big_quiet_step ((go_at_call 107; exact (IV.out _).at_)))
                refine wpQuiet_nil ?_
                rintro _ ⟨y, rfl⟩
                go_wp2
                go_ret
                exact ⟨rfl, fin.out _⟩
end Go.Proofs.Ythmnaocoogfidaa
