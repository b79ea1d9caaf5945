/- The document's names and shapes. -/
import Derived.Test.YtilpgojkbgbinaaIs
set_option maxRecDepth 100000
set_option linter.unusedVariables false
set_option linter.unusedSimpArgs false
namespace Go.Proofs.Ytilpgojkbgbinaa
open Go.RowKit
attribute [local go_sem] run_frombits run_tobits more_more more_drew more_drewN more_size more_cell more_frozen run_store_float lt_c1 le_c1 lt_s1 le_s1 lt_c2 le_c2 lt_s2 le_s2 lt_c3 le_c3 lt_s3 le_s3 lt_c4 le_c4 lt_s4 le_s4 lt_c5 le_c5 lt_s5 le_s5 lt_c6 le_c6 lt_s6 le_s6 lt_c7 le_c7 lt_s7 le_s7 lt_c8 le_c8 lt_s8 le_s8 lt_c9 le_c9 lt_s9 le_s9 lt_c10 le_c10 lt_s10 le_s10 lt_c11 le_c11 lt_s11 le_s11 lt_c12 le_c12 lt_s12 le_s12 le_c0

set_option maxHeartbeats 1000000 in
theorem name_ref (s : ByteArray) (w : World) (ls : s.size ≤ 9223372036854775807) :
    Calls Try.prog 79 #[.string s] w fun e w' => e = .returned (.bool (namedB s)) ∧ w = w' := by
  rcases (show s.size < 1 ∨ (1 ≤ s.size ∧ 20 < s.size) ∨ (1 ≤ s.size ∧ s.size ≤ 20) by omega) with h | ⟨h1, h2⟩ | ⟨h1, h2⟩
  · have h' : (s.size : Int) < 1 := by omega
    have e : namedB s = false := by unfold namedB; rw [decide_eq_false (by omega : ¬ 1 ≤ s.size)]; simp
    rw [e]
    clear e
    go_enter Try.func79, Try.ntmps79
    go_wp2
    go_ret
    exact ⟨rfl, rfl⟩
  · have h' : ¬ (s.size : Int) < 1 := by omega
    have h'' : (20 : Int) < s.size := by omega
    have e : namedB s = false := by unfold namedB; rw [decide_eq_false (by omega : ¬ s.size ≤ 20)]; simp
    rw [e]
    clear e
    go_enter Try.func79, Try.ntmps79
    go_wp2
    go_ret
    exact ⟨rfl, rfl⟩
  · have h' : ¬ (s.size : Int) < 1 := by omega
    have h'' : ¬ (20 : Int) < s.size := by omega
    have e : namedB s = namesL s.toList := by unfold namedB; rw [decide_eq_true h1, decide_eq_true h2]; simp
    rw [e]
    clear e h1 h2
    go_enter Try.func79, Try.ntmps79
    go_wp2
    go_loop [3, 4] (fun i _ => ∃ k : Nat, k ≤ s.size ∧ i = .int .i64 k ∧ Hid (namesL (s.toList.drop k) = namesL s.toList)) (fun i _ => s.size - (intOf i).toNat)
    case atStart => exact ⟨0, by omega, rfl, Lib.hid rfl⟩
    case round =>
      obtain ⟨k, hk, rfl, hr⟩ := hrel
      by_cases hlt : k < s.size
      · have hlt' : (k : Int) < (s.size : Int) := by omega
        have HS := Lib.hid (show (nameC s[k].toNat && namesL (s.toList.drop (k + 1))) = namesL s.toList by
          rw [← namesL_cons, ← drop_step s k hlt]; exact hr.out)
        have HF := Lib.hid (show nameC s[k].toNat = false → namesL s.toList = false by
          intro h
          rw [← HS.out, h]; rfl)
        have HC := Lib.hid (nameC_iff s[k].toNat)
        go_wp2
        all_goals
          try simp only [Bool.not_eq_true', Bool.not_eq_false', decide_eq_false_iff_not, decide_eq_true_eq, beq_eq_false_iff_ne, beq_iff_eq, bne_iff_ne, bne_eq_false_iff_eq, ne_eq] at *
        all_goals first
          | (refine ⟨⟨k + 1, by omega, by go_num, Lib.hid ?_⟩, ?_⟩
             · have h1 : nameC s[k].toNat = true := by
                 rw [HC.out]
                 omega
               have := HS.out
               rw [h1] at this
               exact this
             · simp [intOf]; omega)
          | (have h1 : nameC s[k].toNat = false := Bool.eq_false_iff.2 fun h => by
               have := HC.out.1 h
               omega
             go_ret
             exact ⟨ret_bool (HF.out h1).symm, rfl⟩)
      · have hlt' : ¬ (k : Int) < (s.size : Int) := by omega
        have e : k = s.size := by omega
        have h1 : namesL s.toList = true := by rw [← hr.out, e, drop_end]; rfl
        clear e
        go_wp2
        go_ret
        first | exact ⟨rfl, rfl⟩ | exact ⟨ret_bool h1.symm, rfl⟩
/-- whether one of these has this name -/
def hasN (s : ByteArray) (l : List Fld) : Bool := l.any fun f => f.n.toList == s.toList
theorem fldB_has (s : ByteArray) (l : List Fld) : fldB s l = hasN s l := by
  unfold fldB hasN
  have : ∀ (l : List Fld) (k : Nat), decide (0 ≤ idxF s l k) = l.any fun f => f.n.toList == s.toList := by
    intro l
    induction l with
    | nil => intro k; rfl
    | cons f l ih =>
      intro k
      unfold idxF
      rw [List.any_cons]
      cases h : (f.n.toList == s.toList) with
      | true => rw [if_pos rfl]; simp
      | false => rw [if_neg (by decide), ih]; simp
  exact this l 0
set_option maxHeartbeats 4000000 in
theorem is_ref5 (A : Option Addr) (ca n : Nat) (l : List Fld) (hl : namesOk l) (w : World) (hn : l.length = n) (la : n ≤ ca) (lc : ca ≤ 9223372036854775807) (ha : FieldsIn w A l) :
    Gives Try.prog 26 #[.slice A n ca] w (.bool (isF l)) := by
  subst hn
  have HA := Lib.hid ha; clear ha
  have HL := Lib.hid hl; clear hl
  go_enter Try.func26, Try.ntmps26
  go_wp2
  go_loopw [3, 4] (fun i _ wr => ∃ (k : Nat) (x : Ext), k ≤ l.length ∧ i = .int .i64 k ∧ Hid (goF l (l.drop k) k = goF l l 0) ∧ more w x = wr) (fun i _ _ => l.length - (intOf i).toNat)
  case atStart => exact ⟨0, _, by omega, rfl, Lib.hid rfl, more_self w⟩
  case round =>
    obtain ⟨k, x, hk, rfl, hr, rfl⟩ := hrel
    by_cases h1 : k < l.length
    · have h1' : (k : Int) < (l.length : Int) := by omega
      obtain ⟨b, off, rfl, hb, hcb⟩ := HA.out k h1
      obtain ⟨c0, c1⟩ := hcb k h1
      have HC := Lib.hid hcb
      replace c0 := fun y => (more_cell w y _ hb).trans c0
      replace c1 := fun y => (more_cell w y _ hb).trans c1
      clear hcb
      have HS := Lib.hid (show ((!fldB l[k].n (l.take k) && namedB l[k].n && kindB l[k].k) && goF l (l.drop (k + 1)) (k + 1)) = goF l l 0 by
        rw [← hr.out, List.drop_eq_getElem_cons h1]; rfl)
      have HF := Lib.hid (show goF l l 0 = false → isF l = false by intro h; unfold isF; rw [h]; rfl)
      have HK := Lib.hid (show kindB l[k].k = true ↔ 1 ≤ l[k].k ∧ l[k].k ≤ 5 by unfold kindB; simp)
      have NM := fun W => name_ref l[k].n W (HL.out _ (List.getElem_mem h1))
      have HB := fldB_has l[k].n (l.take k)
      generalize fldB l[k].n (l.take k) = fb at *
      generalize namedB l[k].n = nb at *
      generalize kindB l[k].k = kb at *
      generalize l[k].n = pn at *
      generalize l[k].k = pk at *
      replace NM := Lib.hid NM
      replace HB := Lib.hid HB
      cases nb with
      | false =>
        go_wp2_with fail
        refine (NM.out _).mono ?_; rintro e w' ⟨rfl, rfl⟩
        go_wp2
        go_ret
        exact ⟨ret_bool (HF.out (by rw [← HS.out]; simp)).symm, _, rfl⟩
      | true =>
        rcases (show pk < 1 ∨ (1 ≤ pk ∧ 5 < pk) ∨ (1 ≤ pk ∧ pk ≤ 5) by omega) with p1 | ⟨p1, p2⟩ | ⟨p1, p2⟩
        · go_wp2_with fail
          refine (NM.out _).mono ?_; rintro e w' ⟨rfl, rfl⟩
          go_wp2
          go_ret
          exact ⟨ret_bool (HF.out (by rw [← HS.out, show kb = false from Bool.eq_false_iff.2 (fun h => by have := HK.out.1 h; omega)]; simp)).symm, _, rfl⟩
        · have p1' : ¬ pk < 1 := by omega
          go_wp2_with fail
          refine (NM.out _).mono ?_; rintro e w' ⟨rfl, rfl⟩
          go_wp2
          go_ret
          exact ⟨ret_bool (HF.out (by rw [← HS.out, show kb = false from Bool.eq_false_iff.2 (fun h => by have := HK.out.1 h; omega)]; simp)).symm, _, rfl⟩
        · have p1' : ¬ pk < 1 := by omega
          have p2' : ¬ 5 < pk := by omega
          have hkb := Lib.hid (HK.out.2 ⟨p1, p2⟩)
          go_wp2_with fail
          refine (NM.out _).mono ?_; rintro e w' ⟨rfl, rfl⟩
          go_wp2
          go_loopw [4] (fun i wr => ∃ (j : Nat) (x : Ext), j ≤ k ∧ i = .int .i64 j ∧ Hid (hasN pn (l.take j) = false) ∧ more w x = wr) (fun i _ => k - (intOf i).toNat)
          case atStart => exact ⟨0, _, by omega, rfl, Lib.hid rfl, rfl⟩
          case round =>
            obtain ⟨j, x, hj, rfl, hr2, rfl⟩ := hrel
            by_cases hjk : j < k
            · have hjk' : (j : Int) < (k : Int) := by omega
              have hjl : j < l.length := by omega
              obtain ⟨e0, e1⟩ := HC.out j hjl
              clear e1
              replace e0 := fun y => (more_cell w y _ hb).trans e0
              have HT := Lib.hid (show hasN pn (l.take (j + 1)) = (hasN pn (l.take j) || (l[j].n.toList == pn.toList)) by
                unfold hasN; rw [List.take_succ_eq_append_getElem hjl, List.any_append]; simp only [List.any_cons, List.any_nil, Bool.or_false])
              have HM := Lib.hid (show (l[j].n.toList == pn.toList) = true → hasN pn (l.take k) = true by
                intro h
                unfold hasN
                rw [List.any_eq_true]
                exact ⟨l[j], List.mem_iff_getElem.2 ⟨j, by simp; omega, by simp⟩, h⟩)
              have hjl' : (j : Int) < (l.length : Int) := by omega
              generalize l[j].n = qn at *
              cases hq : (qn.toList == pn.toList) with
              | true =>
                go_wp2
                refine wp_region_more2 (by kernel_rfl) (by kernel_rfl) ?_
                repeat (go_big_quiet_step (fail))
                refine wpQuiet_nil ?_
                rintro _ ⟨y, rfl⟩
                go_wp2
                go_ret
                exact ⟨ret_bool (HF.out (by rw [← HS.out, HB.out, HM.out hq]; rfl)).symm, _, rfl⟩
              | false =>
                go_wp2
                refine wp_region_more2 (by kernel_rfl) (by kernel_rfl) ?_
                repeat (go_big_quiet_step (fail))
                refine wpQuiet_nil ?_
                rintro _ ⟨y, rfl⟩
                go_wp2
                exact ⟨⟨j + 1, _, by omega, by go_num, Lib.hid (by rw [HT.out, hr2.out, hq]; rfl), rfl⟩, by simp [intOf]; omega⟩
            · have hjk' : ¬ (j : Int) < (k : Int) := by omega
              obtain rfl : j = k := by omega
              go_wp2
              refine ⟨⟨j + 1, _, by omega, by go_num, Lib.hid ?_, rfl⟩, by simp [intOf]; omega⟩
              have := HS.out
              rw [HB.out, hr2.out, hkb.out] at this
              exact this
    · have h1' : ¬ (k : Int) < (l.length : Int) := by omega
      have e1 : goF l l 0 = true := by rw [← hr.out, List.drop_eq_nil_of_le (by omega)]; rfl
      go_wp2
      all_goals
        go_ret
        refine ⟨ret_bool ?_, _, rfl⟩
        unfold isF
        rw [e1, Bool.true_and, Bool.eq_iff_iff]
        try simp only [Bool.and_eq_true, decide_eq_true_eq] at *
        first | omega | (simp; omega) | simp
end Go.Proofs.Ytilpgojkbgbinaa
