/- Layer 5: which shapes are looked at; the document's field by name, record; what a definition is looked at for; rows the same. -/
import Derived.Test.YtilpgojkbgbinaaDefs
import Derived.Test.YtilpgojkbgbinaaRef5
import Derived.Test.YtilpgojkbgbinaaHashR
import Derived.Test.YtilpgojkbgbinaaScopy
set_option maxRecDepth 100000
set_option linter.unusedVariables false
set_option linter.unusedSimpArgs false
namespace Go.Proofs.Ytilpgojkbgbinaa
open Go.RowKit
attribute [local go_sem] run_frombits run_tobits more_more more_drew more_drewN more_size more_cell more_frozen run_store_float lt_c1 le_c1 lt_s1 le_s1 lt_c2 le_c2 lt_s2 le_s2 lt_c3 le_c3 lt_s3 le_s3 lt_c4 le_c4 lt_s4 le_s4 lt_c5 le_c5 lt_s5 le_s5 lt_c6 le_c6 lt_s6 le_s6 lt_c7 le_c7 lt_s7 le_s7 lt_c8 le_c8 lt_s8 le_s8 lt_c9 le_c9 lt_s9 le_s9 lt_c10 le_c10 lt_s10 le_s10 lt_c11 le_c11 lt_s11 le_s11 lt_c12 le_c12 lt_s12 le_s12 le_c0
def fewF (l : List Fld) : Bool := l.all (fun f => decide (f.n.size ≤ 60)) && decide (l.length ≤ 12)
set_option maxHeartbeats 1000000 in
theorem few5_any (A : Option Addr) (ca : Nat) (l : List Fld) (hl : namesOk l) (w : World) (la : l.length ≤ ca) (lc : ca ≤ 9223372036854775807) (ha : FieldsIn w A l) :
    Calls Try.prog 21 #[.slice A l.length ca] w fun e w' => e = .returned (.bool (fewF l)) ∧ w = w' := by
  obtain ⟨r, hr⟩ : ∃ r, r = fewF l := ⟨_, rfl⟩
  rw [← hr]
  replace hr := Lib.hid hr
  have HA := Lib.hid ha
  have HL := Lib.hid hl
  clear ha hl
  go_enter Try.func21, Try.ntmps21
  go_wp2
  go_loop [3] (fun t => ∃ k : Nat, t = .int .i64 k ∧ k ≤ l.length ∧ Hid ((l.take k).all (fun f => decide (f.n.size ≤ 60)) = true)) (fun t => l.length - (intOf t).toNat)
  case atStart => exact ⟨0, rfl, Nat.zero_le _, Lib.hid (by simp)⟩
  case round =>
    obtain ⟨k, rfl, hk, hall⟩ := hrel
    rcases Nat.lt_or_ge k l.length with hkl | hkl
    · have hkl' : (k : Int) < (l.length : Int) := by omega
      obtain ⟨b, off, rfl, hb, hcb⟩ := HA.out k hkl
      obtain ⟨c0, c1⟩ := hcb k hkl
      have hsz := HL.out _ (List.getElem_mem hkl)
      have hno := Lib.hid (show ¬ l[k].n.size ≤ 60 → fewF l = false from fun h => by
        unfold fewF
        rw [Bool.and_eq_false_iff]
        left
        rw [List.all_eq_false]
        exact ⟨l[k], List.getElem_mem hkl, by simpa using h⟩)
      have hyes := Lib.hid (show l[k].n.size ≤ 60 → (l.take (k + 1)).all (fun f => decide (f.n.size ≤ 60)) = true from fun h => by
        rw [List.take_succ_eq_append_getElem hkl, List.all_append, hall.out]
        simpa using h)
      clear hcb
      generalize l[k].n = s at *
      generalize l[k].k = kk at *
      by_cases h : (60 : Int) < (s.size : Int)
      · obtain rfl : r = false := by rw [hr.out]; exact hno.out (by omega)
        go_wp2
        go_ret
        exact ⟨rfl, rfl⟩
      · have hall2 := Lib.hid (hyes.out (by omega))
        clear hyes hno
        go_wp2
        exact ⟨⟨k + 1, by go_num, by omega, hall2⟩, by simp [intOf]; omega⟩
    · obtain rfl : k = l.length := by omega
      have e : r = decide ((l.length : Int) ≤ 12) := by
        rw [hr.out]
        have := hall.out
        rw [List.take_of_length_le (Nat.le_refl _)] at this
        unfold fewF
        rw [this, Bool.true_and]
        congr 1
        exact propext ⟨fun h => by omega, fun h => by omega⟩
      subst e
      clear hr
      go_wp2
      all_goals (go_ret; refine ⟨?_, rfl⟩; first | rfl | (congr 2; simp) | skip)
set_option maxHeartbeats 1000000 in
theorem rfield_any (A : Option Addr) (ca : Nat) (l : List Fld) (s : ByteArray) (w : World) (la : l.length ≤ 9223372036854775807) (ha : FieldsIn w A l) :
    Calls Try.prog 24 #[.slice A l.length ca, .string s] w fun e w' => e = .returned (.tuple #[.int .i64 (fldI s l), .bool (fldB s l)]) ∧ w = w' := by
  have hr := idxF_range s l 0
  have e1 : fldI s l = max (idxF s l 0) 0 := rfl
  have e2 : fldB s l = decide (0 ≤ idxF s l 0) := rfl
  obtain ⟨i, hi⟩ : ∃ i, i = fldI s l := ⟨_, rfl⟩
  obtain ⟨q, hq⟩ : ∃ q, q = fldB s l := ⟨_, rfl⟩
  rw [← hi, ← hq]
  rw [e1] at hi
  rw [e2] at hq
  replace hi := Lib.hid hi
  replace hq := Lib.hid hq
  replace hr := Lib.hid hr
  clear e1 e2
  have HA := Lib.hid ha; clear ha
  go_enter Try.func24, Try.ntmps24
  go_wp2
  go_loop [6] (fun t => ∃ (k : Nat), k ≤ l.length ∧ t = .int .i64 k ∧ Hid (idxF s (l.drop k) k = idxF s l 0)) (fun t => l.length - (intOf t).toNat)
  case atStart => exact ⟨0, by omega, rfl, Lib.hid rfl⟩
  case round =>
    obtain ⟨k, hk, rfl, hx⟩ := hrel
    rcases Nat.lt_or_ge k l.length with h1 | h1
    · have h1' : (k : Int) < (l.length : Int) := by omega
      obtain ⟨b, off, rfl, hb, hcb⟩ := HA.out k h1
      obtain ⟨c0, c1⟩ := hcb k h1
      clear hcb
      have HS := Lib.hid (show (if (l[k].n.toList == s.toList) = true then (k : Int) else idxF s (l.drop (k + 1)) (k + 1 : Nat)) = idxF s l 0 by
        rw [← hx.out, List.drop_eq_getElem_cons h1]; rfl)
      generalize l[k] = p at *
      obtain ⟨pn, pk⟩ := p
      dsimp only at c0 c1
      cases h : (pn.toList == s.toList) with
      | true =>
        have e : (k : Int) = idxF s l 0 := by have := HS.out; rw [if_pos h] at this; exact this
        obtain rfl : i = (k : Int) := by rw [hi.out, ← e]; omega
        obtain rfl : q = true := by rw [hq.out, ← e]; simp
        clear e
        go_wp2
        go_ret2
        exact ⟨rfl, rfl⟩
      | false =>
        have e := HS.out
        rw [if_neg (by rw [h]; decide)] at e
        replace e := Lib.hid e
        go_wp2
        exact ⟨⟨k + 1, by omega, by go_num, e⟩, by simp [intOf]; omega⟩
    · have e : idxF s l 0 = -1 := by rw [← hx.out, List.drop_eq_nil_of_le (by omega)]; rfl
      obtain rfl : i = 0 := by rw [hi.out, e]; rfl
      obtain rfl : q = false := by rw [hq.out, e]; rfl
      clear e
      go_wp2
      go_ret2
      exact ⟨rfl, rfl⟩
theorem rowsV_self : ∀ l : List Val, allOk l → rowsV l l = 0
  | [], _ => rfl
  | a :: l, h => by
    unfold rowsV
    rw [rowsV_self l (fun x hx => h x (List.mem_cons_of_mem _ hx))]
    have : cmpV a a = 0 := cmpV_refl a
    rw [this]; rfl
set_option maxHeartbeats 1000000 in
theorem vals_same (A B : Option Addr) (ca cb : Nat) (l : List Val) (hl : allOk l) (w : World) (la : l.length ≤ 9223372036854775807) (ha : ValsIn w A l) (hb : ValsIn w B l) :
    Gives Try.prog 31 #[.slice A l.length ca, .slice B l.length cb] w (.bool true) := by
  have R := rows_ref A B ca cb l l hl hl w la la ha hb
  rw [rowsV_self l hl] at R
  replace R := Lib.hid R
  clear ha hb hl
  go_enter Try.func31, Try.ntmps31
  go_wp2_with fail
  refine R.out.mono' ?_; intro x
  go_wp2
  go_ret
  exact ⟨rfl, _, rfl⟩
def fewD (n : ByteArray) (k : Nat) : Bool := decide (n.size ≤ 60) && decide (k ≤ 8)
set_option maxHeartbeats 1000000 in
theorem hdef_any (n : ByteArray) (ln : n.size ≤ 9223372036854775807) (kd c : Int) (B : Option Addr) (k cb : Nat) (hk : k ≤ 9223372036854775807) (w : World) :
    Gives Try.prog 23 #[.agg #[.string n, .int .i64 kd, .slice B k cb, .int .i64 c]] w (.bool (fewD n k)) := by
  obtain ⟨r, hr⟩ : ∃ r, r = fewD n k := ⟨_, rfl⟩
  rw [← hr]
  unfold fewD at hr
  by_cases h1 : (n.size : Int) ≤ 60
  · by_cases h2 : (k : Int) ≤ 8
    · obtain rfl : r = true := by rw [hr]; simp; omega
      clear hr
      go_enter Try.func23, Try.ntmps23
      go_wp2
      go_ret
      exact ⟨rfl, (more_of_below (by repeat (first | (with_reducible exact Below.refl _ _) | (with_reducible refine Below.drew ?_) | (with_reducible refine Below.alloc ?_ (by simp [more_size]; try omega) _) | (with_reducible refine Below.setCell ?_ (by simp [more_size]; try omega) _) | (with_reducible refine below_more ?_ _ (by simp [more_size]; try omega)))))⟩
    · have h2' : ((k : Int) ≤ 8) = False := eq_false h2
      obtain rfl : r = false := by rw [hr]; simp; omega
      clear hr h2
      go_enter Try.func23, Try.ntmps23
      go_wp2
      go_ret
      exact ⟨rfl, (more_of_below (by repeat (first | (with_reducible exact Below.refl _ _) | (with_reducible refine Below.drew ?_) | (with_reducible refine Below.alloc ?_ (by simp [more_size]; try omega) _) | (with_reducible refine Below.setCell ?_ (by simp [more_size]; try omega) _) | (with_reducible refine below_more ?_ _ (by simp [more_size]; try omega)))))⟩
  · have h1' : ((n.size : Int) ≤ 60) = False := eq_false h1
    obtain rfl : r = false := by rw [hr]; simp; omega
    clear hr h1
    go_enter Try.func23, Try.ntmps23
    go_wp2
    go_ret
    exact ⟨rfl, (more_of_below (by repeat (first | (with_reducible exact Below.refl _ _) | (with_reducible refine Below.drew ?_) | (with_reducible refine Below.alloc ?_ (by simp [more_size]; try omega) _) | (with_reducible refine Below.setCell ?_ (by simp [more_size]; try omega) _) | (with_reducible refine below_more ?_ _ (by simp [more_size]; try omega)))))⟩
end Go.Proofs.Ytilpgojkbgbinaa
