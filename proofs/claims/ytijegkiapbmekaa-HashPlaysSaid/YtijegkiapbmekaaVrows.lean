/- value.Rows and what else goes over rows of values. -/
import Derived.Test.YtijegkiapbmekaaVal
set_option maxRecDepth 100000
set_option linter.unusedVariables false
set_option linter.unusedSimpArgs false
namespace Go.Proofs.Ytijegkiapbmekaa
open Go.RowKit
attribute [local go_sem] run_frombits run_tobits more_more more_drew more_drewN more_size run_cmpstring

/-- a row of values lies at this place -/
def ValAt (w : World) (b o : Nat) (a : Val) : Prop :=
  w.cell? ⟨b, o, none⟩ = some (.int .i64 a.k) ∧ w.cell? ⟨b, o + 1, none⟩ = some (.int .i64 a.i) ∧ w.cell? ⟨b, o + 2, none⟩ = some (.string a.s) ∧ w.cell? ⟨b, o + 3, none⟩ = some (.float .f64 a.f)
def ValsIn (w : World) (A : Option Addr) (l : List Val) : Prop :=
  ∀ j (h : j < l.length), ∃ b off, A = some ⟨b, off, none⟩ ∧ b < w.heap.size ∧ ∀ j (h : j < l.length), ValAt w b (off + j * 4) l[j]
theorem ValAt.more {w : World} {b o : Nat} {a : Val} (h : ValAt w b o a) (hb : b < w.heap.size) (x : Ext) : ValAt (more w x) b o a :=
  ⟨(more_cell w x _ hb).trans h.1, (more_cell w x _ hb).trans h.2.1, (more_cell w x _ hb).trans h.2.2.1, (more_cell w x _ hb).trans h.2.2.2⟩
theorem ValsIn.more {w : World} {A : Option Addr} {l : List Val} (h : ValsIn w A l) (x : Ext) : ValsIn (more w x) A l := fun j hj => by
  obtain ⟨b, off, e, hb, hc⟩ := h j hj
  exact ⟨b, off, e, by rw [more_size]; omega, fun i hi => (hc i hi).more hb x⟩
theorem ValsIn.below {w w' : World} {A : Option Addr} {l : List Val} (h : ValsIn w A l) (hb : Below w.heap.size w w') : ValsIn w' A l := fun j hj => by
  obtain ⟨b, off, e, hlt, hc⟩ := h j hj
  refine ⟨b, off, e, Nat.lt_of_lt_of_le hlt hb.size, fun i hi => ?_⟩
  obtain ⟨c0, c1, c2, c3⟩ := hc i hi
  exact ⟨(hb.cell (p := ⟨b, _, none⟩) hlt).trans c0, (hb.cell (p := ⟨b, _, none⟩) hlt).trans c1, (hb.cell (p := ⟨b, _, none⟩) hlt).trans c2, (hb.cell (p := ⟨b, _, none⟩) hlt).trans c3⟩
theorem ValsIn.alloc {w : World} {A : Option Addr} {l : List Val} (h : ValsIn w A l) (o : Obj) : ValsIn (w.alloc o) A l := h.below ((Below.refl _ _).alloc (Nat.le_refl _) o)
theorem ValsIn.drew {w : World} {A : Option Addr} {l : List Val} (h : ValsIn w A l) : ValsIn w.drew A l := h
set_option maxHeartbeats 2000000 in
theorem rows_any (A B : Option Addr) (ca cb : Nat) (l m : List Val) (hl : allOk l) (hm : allOk m) (w : World) (la : l.length ≤ 9223372036854775807) (lb : m.length ≤ 9223372036854775807) (ha : ValsIn w A l) (hb : ValsIn w B m) :
    Gives Try.prog 37 #[.slice A l.length ca, .slice B m.length cb] w (.int .i64 (rowsV l m)) := by
  have HA := Lib.hid ha; clear ha
  have HB := Lib.hid hb; clear hb
  have HL := Lib.hid hl; clear hl
  have HM := Lib.hid hm; clear hm
  go_enter Try.func37, Try.ntmps37
  go_wp2
  all_goals
    go_loopw [12] (fun i wr => ∃ (k : Nat) (x : Ext), k ≤ l.length ∧ k ≤ m.length ∧ i = .int .i64 k ∧ Hid (rowsV (l.drop k) (m.drop k) = rowsV l m) ∧ more w x = wr) (fun i _ => l.length - (intOf i).toNat)
    case atStart => exact ⟨0, _, by omega, by omega, rfl, Lib.hid rfl, more_self w⟩
    case round =>
      obtain ⟨k, x, hk1, hk2, rfl, hr, rfl⟩ := hrel
      by_cases hlt : k < l.length ∧ k < m.length
      · obtain ⟨h1, h2⟩ := hlt
        have h1' : (k : Int) < (l.length : Int) := by omega
        have h2' : (k : Int) < (m.length : Int) := by omega
        obtain ⟨b, off, rfl, hb, hcb⟩ := HA.out k h1
        obtain ⟨b', off', rfl, hb', hcb'⟩ := HB.out k h2
        obtain ⟨c0, c1, c2, c3⟩ := hcb k h1
        obtain ⟨d0, d1, d2, d3⟩ := hcb' k h2
        clear hcb hcb'
        have C0 := fun y => (more_cell w y _ hb).trans c0
        have C1 := fun y => (more_cell w y _ hb).trans c1
        have C2 := fun y => (more_cell w y _ hb).trans c2
        have C3 := fun y => (more_cell w y _ hb).trans c3
        have D0 := fun y => (more_cell w y _ hb').trans d0
        have D1 := fun y => (more_cell w y _ hb').trans d1
        have D2 := fun y => (more_cell w y _ hb').trans d2
        have D3 := fun y => (more_cell w y _ hb').trans d3
        clear c0 c1 c2 c3 d0 d1 d2 d3
        go_wp2_with fail
        refine wp_region_more2 (by kernel_rfl) (by kernel_rfl) ?_
        have okA : l[k].ok := HL.out _ (List.getElem_mem h1)
        have okB : m[k].ok := HM.out _ (List.getElem_mem h2)
        have HS := Lib.hid (show orI (cmpV l[k] m[k]) (rowsV (l.drop (k + 1)) (m.drop (k + 1))) = rowsV l m by
          rw [← hr.out, List.drop_eq_getElem_cons h1, List.drop_eq_getElem_cons h2]; rfl)
        generalize l[k] = p at *
        generalize m[k] = q at *
        repeat (go_big_quiet_step ((go_at_call 53; exact (comparev_any p q okA okB _).at_)))
        refine wpQuiet_nil ?_
        rintro _ ⟨y, rfl⟩
        by_cases hz : cmpV p q = 0
        · have hz' : (cmpV p q != 0) = false := by simpa using hz
          have HZ := Lib.hid hz; clear hz
          go_wp2
          go_roundw
          case rel => exact ⟨k + 1, _, by omega, by omega, by go_num, by have := HS.out; rw [HZ.out] at this; exact Lib.hid this, rfl⟩
          case measure => simp [intOf]; omega
        · have hz' : (cmpV p q != 0) = true := by simpa using hz
          have HZ := Lib.hid hz; clear hz
          go_wp2
          go_ret
          exact ⟨ret_i64 (by have := HS.out; unfold orI at this; rw [if_neg HZ.out] at this; exact this), _, rfl⟩
      · have h1' : ¬ ((k : Int) < (l.length : Int) ∧ (k : Int) < (m.length : Int)) := by omega
        have HE := Lib.hid (show cmpI l.length m.length = rowsV l m by
          rw [← hr.out]
          have hz : l.drop k = [] ∨ m.drop k = [] := by
            rcases Nat.lt_or_ge k l.length with h | h
            · right; exact List.drop_eq_nil_of_le (by omega)
            · left; exact List.drop_eq_nil_of_le h
          rw [rowsV_nil _ _ hz, List.length_drop, List.length_drop]
          unfold cmpI
          simp only [show ((l.length : Int) < m.length) = (((l.length - k : Nat) : Int) < ((m.length - k : Nat) : Int)) from propext (by omega), show ((m.length : Int) < l.length) = (((m.length - k : Nat) : Int) < ((l.length - k : Nat) : Int)) from propext (by omega)])
        go_wp2_with (first | (go_at_call 54; refine (cmpi_any _ _ _).mono ?_; rintro e w' ⟨rfl, rfl⟩))
        go_ret
        exact ⟨ret_i64 HE.out, _, rfl⟩
end Go.Proofs.Ytijegkiapbmekaa
