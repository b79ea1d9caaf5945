/- What queries and shapes the statements on predicates look at. -/
import Derived.Test.YthmnaocoogfidaaPis
set_option maxRecDepth 100000
set_option linter.unusedVariables false
set_option linter.unusedSimpArgs false
namespace Go.Proofs.Ythmnaocoogfidaa
open Go.RowKit
attribute [local go_sem] run_frombits run_tobits more_more more_drew more_drewN more_size more_cell more_frozen run_store_float lt_c1 le_c1 lt_s1 le_s1 lt_c2 le_c2 lt_s2 le_s2 lt_c3 le_c3 lt_s3 le_s3 lt_c4 le_c4 lt_s4 le_s4 lt_c5 le_c5 lt_s5 le_s5 lt_c6 le_c6 lt_s6 le_s6 lt_c7 le_c7 lt_s7 le_s7 lt_c8 le_c8 lt_s8 le_s8 lt_c9 le_c9 lt_s9 le_s9 lt_c10 le_c10 lt_s10 le_s10 lt_c11 le_c11 lt_s11 le_s11 lt_c12 le_c12 lt_s12 le_s12 le_c0

def fewF (l : List Fld) : Bool := l.all (fun f => decide (f.n.size ≤ 60)) && decide ((l.length : Int) ≤ 12)
def qryB (ps : List Prd) (os : List Ord) : Bool := ps.all (fun p => decide (p.v.s.size ≤ 200)) && (decide ((ps.length : Int) ≤ 10) && decide ((os.length : Int) ≤ 8))
theorem all_take {α : Type} (q : α → Bool) (l : List α) (k : Nat) (hk : k < l.length) : ((l.take (k + 1)).all q) = (((l.take k).all q) && q l[k]) := by
  rw [List.take_succ_eq_append_getElem hk, List.all_append]; simp only [List.all_cons, List.all_nil, Bool.and_true]
theorem all_false {α : Type} (q : α → Bool) (l : List α) (k : Nat) (hk : k < l.length) (h : q l[k] = false) : l.all q = false := by
  rw [List.all_eq_false]; exact ⟨l[k], List.getElem_mem hk, by simpa using h⟩
set_option maxHeartbeats 1000000 in
theorem few20_any (A : Option Addr) (ca : Nat) (l : List Fld) (w : World) (la : l.length ≤ 9223372036854775807) (ha : FieldsIn w A l) :
    Calls Try.prog 26 #[.slice A l.length ca] w fun e w' => e = .returned (.bool (fewF l)) ∧ w = w' := by
  have HA := Lib.hid ha; clear ha
  go_enter Try.func26, Try.ntmps26
  go_wp2
  go_loop [3] (fun i => ∃ k : Nat, k ≤ l.length ∧ i = .int .i64 k ∧ Hid ((l.take k).all (fun f => decide (f.n.size ≤ 60)) = true)) (fun i => l.length - (intOf i).toNat)
  case atStart => exact ⟨0, by omega, rfl, Lib.hid rfl⟩
  case round =>
    obtain ⟨k, hk, rfl, hr⟩ := hrel
    by_cases hlt : k < l.length
    · have hlt' : (k : Int) < (l.length : Int) := by omega
      obtain ⟨b, off, rfl, hb, hcb⟩ := HA.out k hlt
      obtain ⟨c0, _⟩ := hcb k hlt
      clear hcb
      have HT := Lib.hid (show (l.take (k + 1)).all (fun f : Fld => decide (f.n.size ≤ 60)) = ((l.take k).all (fun f : Fld => decide (f.n.size ≤ 60)) && decide (l[k].n.size ≤ 60)) from all_take _ l k hlt)
      have HF := Lib.hid (fun (h : decide (l[k].n.size ≤ 60) = false) => all_false (fun f : Fld => decide (f.n.size ≤ 60)) l k hlt h)
      generalize l[k].n = s at *
      by_cases h6 : s.size ≤ 60
      · have h6' : ¬ (60 : Int) < s.size := by omega
        go_wp2
        exact ⟨⟨k + 1, by omega, by go_num, Lib.hid (by rw [HT.out, hr.out, decide_eq_true h6]; rfl)⟩, by simp [intOf]; omega⟩
      · have h6' : (60 : Int) < s.size := by omega
        go_wp2
        go_ret
        exact ⟨ret_bool (by unfold fewF; rw [HF.out (decide_eq_false h6)]; rfl), rfl⟩
    · have hlt' : ¬ (k : Int) < (l.length : Int) := by omega
      obtain rfl : k = l.length := by omega
      have e : l.all (fun f => decide (f.n.size ≤ 60)) = true := by have := hr.out; rwa [List.take_length] at this
      have e2 := Lib.hid (show fewF l = decide ((l.length : Int) ≤ 12) by unfold fewF; rw [e, Bool.true_and])
      clear e
      go_wp2
      go_ret
      exact ⟨ret_bool e2.out.symm, rfl⟩
set_option maxHeartbeats 1000000 in
theorem query_any (B C : Option Addr) (cb cc : Nat) (ps : List Prd) (os : List Ord) (off lim : Int) (w : World) (la : ps.length ≤ 9223372036854775807) (ha : RowIn prdC 6 w B ps) :
    Gives Try.prog 27 #[.agg #[.slice B ps.length cb, .slice C os.length cc, .int .i64 off, .int .i64 lim]] w (.bool (qryB ps os)) := by
  have HA := Lib.hid ha; clear ha
  go_enter Try.func27, Try.ntmps27
  go_wp2
  refine wp_named (R := fun W => Below w.heap.size w W ∧ Blk W w.heap.size #[.slice B ps.length cb, .slice C os.length cc, .int .i64 off, .int .i64 lim] 53) ⟨(by repeat (first | (with_reducible exact Below.refl _ _) | (with_reducible refine Below.drew ?_) | (with_reducible refine Below.alloc ?_ (by simp [more_size]; try omega) _) | (with_reducible refine Below.setCell ?_ (by simp [more_size]; try omega) _) | (with_reducible refine below_more ?_ _ (by simp [more_size]; try omega)))), Blk.new _ _ _ rfl⟩ ?_
  rintro W ⟨bW, k1⟩
  have e0 : W.cell? ⟨w.heap.size, 0, none⟩ = some (.slice B ps.length cb) := k1.cell 0
  have e1 : W.cell? ⟨w.heap.size, 1, none⟩ = some (.slice C os.length cc) := k1.cell 1
  replace HA := Lib.hid (HA.out.below bW)
  clear k1
  replace bW := Lib.hid (more_of_below bW)
  go_loop [3] (fun i => ∃ k : Nat, k ≤ ps.length ∧ i = .int .i64 k ∧ Hid ((ps.take k).all (fun f => decide (f.v.s.size ≤ 200)) = true)) (fun i => ps.length - (intOf i).toNat)
  case atStart => exact ⟨0, by omega, rfl, Lib.hid rfl⟩
  case round =>
    obtain ⟨k, hk, rfl, hr⟩ := hrel
    by_cases hlt : k < ps.length
    · have hlt' : (k : Int) < (ps.length : Int) := by omega
      obtain ⟨b, off, rfl, hb, hcb⟩ := HA.out k hlt
      have c0 := hcb k hlt 4 _ rfl
      clear hcb
      have HT := Lib.hid (show (ps.take (k + 1)).all (fun f : Prd => decide (f.v.s.size ≤ 200)) = ((ps.take k).all (fun f : Prd => decide (f.v.s.size ≤ 200)) && decide (ps[k].v.s.size ≤ 200)) from all_take _ ps k hlt)
      have HF := Lib.hid (fun (h : decide (ps[k].v.s.size ≤ 200) = false) => all_false (fun f : Prd => decide (f.v.s.size ≤ 200)) ps k hlt h)
      generalize ps[k].v.s = s at *
      by_cases h6 : s.size ≤ 200
      · have h6' : ¬ (200 : Int) < s.size := by omega
        go_wp2
        exact ⟨⟨k + 1, by omega, by go_num, Lib.hid (by rw [HT.out, hr.out, decide_eq_true h6]; rfl)⟩, by simp [intOf]; omega⟩
      · have h6' : (200 : Int) < s.size := by omega
        go_wp2
        go_ret
        exact ⟨ret_bool (by unfold qryB; rw [HF.out (decide_eq_false h6)]; rfl), bW.out⟩
    · have hlt' : ¬ (k : Int) < (ps.length : Int) := by omega
      obtain rfl : k = ps.length := by omega
      have e : ps.all (fun f => decide (f.v.s.size ≤ 200)) = true := by have := hr.out; rwa [List.take_length] at this
      have e2 := Lib.hid (show qryB ps os = (decide ((ps.length : Int) ≤ 10) && decide ((os.length : Int) ≤ 8)) by unfold qryB; rw [e, Bool.true_and])
      clear e
      go_wp2
      all_goals
        go_ret
        refine ⟨ret_bool ?_, bW.out⟩
        rw [e2.out]
        first | (simp [*]; done) | (simp; omega) | (symm; simp; omega)
end Go.Proofs.Ythmnaocoogfidaa
