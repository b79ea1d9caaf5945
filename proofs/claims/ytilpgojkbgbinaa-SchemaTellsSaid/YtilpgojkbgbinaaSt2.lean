/- Layer 5: the document's check of a record. -/
import Derived.Test.YtilpgojkbgbinaaSt1
set_option maxRecDepth 100000
set_option linter.unusedVariables false
set_option linter.unusedSimpArgs false
namespace Go.Proofs.Ytilpgojkbgbinaa
open Go.RowKit
attribute [local go_sem] run_frombits run_tobits more_more more_drew more_drewN more_size more_cell more_frozen run_store_float lt_c1 le_c1 lt_s1 le_s1 lt_c2 le_c2 lt_s2 le_s2 lt_c3 le_c3 lt_s3 le_s3 lt_c4 le_c4 lt_s4 le_s4 lt_c5 le_c5 lt_s5 le_s5 lt_c6 le_c6 lt_s6 le_s6 lt_c7 le_c7 lt_s7 le_s7 lt_c8 le_c8 lt_s8 le_s8 lt_c9 le_c9 lt_s9 le_s9 lt_c10 le_c10 lt_s10 le_s10 lt_c11 le_c11 lt_s11 le_s11 lt_c12 le_c12 lt_s12 le_s12 le_c0
set_option maxHeartbeats 4000000 in
theorem rcheck_any (A : Option Addr) (ca : Nat) (l : List Fld) (hl : namesOk l) (B : Option Addr) (cb : Nat) (m : List Val) (hm : allOk m) (w : World) (la : l.length ≤ ca) (lc : ca ≤ 9223372036854775807) (lb : m.length ≤ 9223372036854775807) (ha : FieldsIn w A l) (hb : ValsIn w B m) :
    Gives Try.prog 28 #[.slice A l.length ca, .slice B m.length cb] w (.int .i64 (chkN l m)) := by
  have IF := is_ref5 A ca l.length l hl w rfl la lc ha
  have HA := Lib.hid ha; clear ha
  have HB := Lib.hid hb; clear hb
  have HM := Lib.hid hm; clear hm
  obtain ⟨r, hr⟩ : ∃ r, r = chkN l m := ⟨_, rfl⟩
  rw [← hr]
  unfold chkN at hr
  cases hf : isF l with
  | false =>
    rw [hf] at IF hr
    obtain rfl : r = 40 := hr
    replace IF := Lib.hid IF
    go_enter Try.func28, Try.ntmps28
    go_wp2_with fail
    refine IF.out.mono' ?_; intro y
    go_wp2
    go_ret
    exact ⟨rfl, _, rfl⟩
  | true =>
    rw [hf, if_pos rfl] at hr
    rw [hf] at IF
    replace IF := Lib.hid IF
    by_cases hlen : m.length = l.length
    · rw [if_pos hlen] at hr
      have hne : ((m.length : Int) != (l.length : Int)) = false := by simp [hlen]
      replace hr := Lib.hid hr
      have hlen' := Lib.hid hlen
      have hml : (m.length : Int) = (l.length : Int) := by omega
      clear hlen
      go_enter Try.func28, Try.ntmps28
      go_wp2_with fail
      refine IF.out.mono' ?_; intro y
      generalize hmn : m.length = mn at *
      replace hmn := Lib.hid hmn
      clear IF
      go_wp2
      go_loopw [5] (fun t wr => ∃ (k : Nat) (y : Ext), t = .int .i64 k ∧ k ≤ l.length ∧ Hid (chkL (l.drop k) (m.drop k) = chkL l m) ∧ wr = more w y) (fun t _ => l.length - (intOf t).toNat)
      case atStart => exact ⟨0, y, rfl, Nat.zero_le _, Lib.hid rfl, rfl⟩
      case round =>
        obtain ⟨k, y, rfl, hk, hc, rfl⟩ := hrel
        rcases Nat.lt_or_ge k l.length with h1 | h1
        · have h1' : (k : Int) < (l.length : Int) := by omega
          have h2' : (k : Int) < (mn : Int) := by omega
          have hkm : k < m.length := by have := hmn.out; omega
          obtain ⟨b, off, rfl, hb, hcb⟩ := HA.out k h1
          obtain ⟨c0, c1⟩ := hcb k h1
          obtain ⟨b2, o2, rfl, hb2, hcb2⟩ := HB.out k hkm
          obtain ⟨v0, v1, v2, v3⟩ := hcb2 k hkm
          replace c1 := fun y => (more_cell w y _ hb).trans c1
          replace v0 := fun y => (more_cell w y _ hb2).trans v0
          replace v1 := fun y => (more_cell w y _ hb2).trans v1
          replace v2 := fun y => (more_cell w y _ hb2).trans v2
          replace v3 := fun y => (more_cell w y _ hb2).trans v3
          have hok := HM.out _ (List.getElem_mem hkm)
          have IV := fun W => is_ref m[k] hok W
          have HS := Lib.hid (show ((m[k].k == l[k].k && isV m[k]) && chkL (l.drop (k + 1)) (m.drop (k + 1))) = chkL l m by
            rw [← hc.out, List.drop_eq_getElem_cons h1, List.drop_eq_getElem_cons hkm]; rfl)
          clear hcb hcb2 c0 hok
          generalize l[k].k = fk at *
          generalize hv : isV m[k] = bv at *
          generalize m[k] = a at *
          obtain ⟨ak, ai, as_, af⟩ := a
          dsimp only at v0 v1 v2 v3 HS
          replace hv := Lib.hid hv
          replace IV := Lib.hid IV
          have hbad := Lib.hid (show (ak == fk && bv) = false → r = 41 from fun h => by
            have := HS.out
            rw [h, Bool.false_and] at this
            rw [hr.out, ← this]; rfl)
          cases bv with
          | false =>
            obtain rfl : r = 41 := hbad.out (by simp)
            clear hr hbad
            go_wp2_with fail
            refine wp_region_more2 (by kernel_rfl) (by kernel_rfl) ?_
            repeat (go_big_quiet_step ((go_at_call 81; exact (IV.out _).at_)))
            refine wpQuiet_nil ?_
            rintro _ ⟨z, rfl⟩
            go_wp2
            go_ret
            exact ⟨rfl, _, rfl⟩
          | true =>
            by_cases hk2 : ak = fk
            · have hn : (ak != fk) = false := by simp [hk2]
              have hgo := Lib.hid (show chkL (l.drop (k + 1)) (m.drop (k + 1)) = chkL l m by
                rw [← HS.out, show (ak == fk && true) = true by simp [hk2], Bool.true_and])
              clear hk2 hbad
              go_wp2_with fail
              refine wp_region_more2 (by kernel_rfl) (by kernel_rfl) ?_
              repeat (go_big_quiet_step ((go_at_call 81; exact (IV.out _).at_)))
              refine wpQuiet_nil ?_
              rintro _ ⟨z, rfl⟩
              go_wp2
              exact ⟨⟨k + 1, _, by go_num, by omega, hgo, rfl⟩, by simp [intOf]; omega⟩
            · have hn : (ak != fk) = true := by simpa using hk2
              obtain rfl : r = 41 := hbad.out (by simp [hk2])
              clear hr hbad hk2
              go_wp2_with fail
              refine wp_region_more2 (by kernel_rfl) (by kernel_rfl) ?_
              repeat (go_big_quiet_step ((go_at_call 81; exact (IV.out _).at_)))
              refine wpQuiet_nil ?_
              rintro _ ⟨z, rfl⟩
              go_wp2
              go_ret
              exact ⟨rfl, _, rfl⟩
        · obtain rfl : r = 0 := by
            rw [hr.out]
            have := hc.out
            rw [List.drop_eq_nil_of_le h1] at this
            rw [← this]; rfl
          clear hr
          go_wp2
          go_ret
          exact ⟨rfl, _, rfl⟩
    · rw [if_neg hlen] at hr
      obtain rfl : r = 41 := hr
      have hne : ((m.length : Int) != (l.length : Int)) = true := by simp; omega
      clear hlen
      go_enter Try.func28, Try.ntmps28
      go_wp2_with fail
      refine IF.out.mono' ?_; intro y
      go_wp2
      go_ret
      exact ⟨rfl, _, rfl⟩
end Go.Proofs.Ytilpgojkbgbinaa
