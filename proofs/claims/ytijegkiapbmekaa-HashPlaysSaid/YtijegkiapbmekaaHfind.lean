/- Package hashidx: find. -/
import Derived.Test.YtijegkiapbmekaaHix
set_option maxRecDepth 100000
set_option linter.unusedVariables false
set_option linter.unusedSimpArgs false
namespace Go.Proofs.Ytijegkiapbmekaa
open Go.RowKit
open Go.Maps (has size Keyed int_keyed keyOf_int_mk)
attribute [local go_sem] run_frombits run_tobits more_more more_drew more_drewN more_size more_cell more_frozen run_store_float lt_c1 le_c1 lt_s1 le_s1 lt_c2 le_c2 lt_s2 le_s2 lt_c3 le_c3 lt_s3 le_s3 lt_c4 le_c4 lt_s4 le_s4 lt_c5 le_c5 lt_s5 le_s5 lt_c6 le_c6 lt_s6 le_s6 lt_c7 le_c7 lt_s7 le_s7 lt_c8 le_c8 lt_s8 le_s8 lt_c9 le_c9 lt_s9 le_s9 lt_c10 le_c10 lt_s10 le_s10 lt_c11 le_c11 lt_s11 le_s11 lt_c12 le_c12 lt_s12 le_s12 le_c0
theorem rowsV_zero : ∀ (a b : List Val), allOk a → allOk b → rowsV a b = 0 → a = b
  | [], [], _, _, _ => rfl
  | [], _ :: _, _, _, h => by unfold rowsV at h; omega
  | _ :: _, [], _, _, h => by unfold rowsV at h; omega
  | x :: a, y :: b, ha, hb, h => by
    unfold rowsV orI at h
    by_cases e : cmpV x y = 0
    · rw [cmpV_zero (ha x (by simp)) (hb y (by simp)) e]
      rw [e] at h
      simp at h
      rw [rowsV_zero a b (fun z hz => ha z (by simp [hz])) (fun z hz => hb z (by simp [hz])) h]
    · simp [e] at h
theorem rowsV_self : ∀ l : List Val, allOk l → rowsV l l = 0
  | [], _ => rfl
  | a :: l, h => by
    unfold rowsV
    rw [rowsV_self l (fun x hx => h x (List.mem_cons_of_mem _ hx))]
    have : cmpV a a = 0 := cmpV_refl a
    rw [this]; rfl
def nilP : Value := .pointer none
noncomputable def fnd (C : List Chn) (key : List Val) : Value := match (ofH C (hashV key)).find? (fun c => rowsV c.key key == 0) with | some c => chnP c | none => .pointer none
theorem keyU : Keyed Try.prog 26 := int_keyed Try.underlying26
theorem hashV_lt (l : List Val) : hashV l < 18446744073709551616 := by
  unfold hashV
  have : ∀ (l : List Val) (h : Nat), h < 18446744073709551616 → l.foldl hash1 h < 18446744073709551616 := by
    intro l
    induction l with
    | nil => intro h hh; exact hh
    | cons a l ih => intro h hh; exact ih _ (hash1_lt h a hh)
  exact this l _ (by decide)
section
variable {w w' : World} {F Y : Nat → Prop} {p M : Nat} {D : DataW Value} {u : Bool} {n : Int} {C : List Chn} {key : List Val}
theorem fnd_no (h : HM w F p M D u n C) (hk : allOk key) (hno : ∀ c ∈ C, c.key ≠ key) : fnd C key = .pointer none := by
  unfold fnd
  rw [List.find?_eq_none.2 (fun c hc => ?_)]
  have hC : c ∈ C := (List.mem_filter.1 hc).1
  simp only [beq_iff_eq]
  exact fun e => hno c hC (rowsV_zero _ _ (h.each c hC).kok hk e)
theorem fnd_yes (h : HM w F p M D u n C) {c : Chn} (hc : c ∈ C) (hk : c.key = key) : fnd C key = chnP c := by
  have hok := (h.each c hc).kok
  unfold fnd
  have hm : c ∈ ofH C (hashV key) := List.mem_filter.2 ⟨hc, by rw [hk]; simp⟩
  cases hf : (ofH C (hashV key)).find? (fun c => rowsV c.key key == 0) with
  | none =>
    have := List.find?_eq_none.1 hf c hm
    rw [hk] at this hok
    simp [rowsV_self key hok] at this
  | some d =>
    have h1 := List.find?_some hf
    have h2 := List.mem_of_find?_eq_some hf
    have hD : d ∈ C := (List.mem_filter.1 h2).1
    simp only [beq_iff_eq] at h1
    have h3 : d.key = key := rowsV_zero _ _ (h.each d hD).kok (by rw [← hk]; exact hok) h1
    have : d = c := by
      obtain ⟨i, hi, rfl⟩ := List.mem_iff_getElem.1 hc
      obtain ⟨j, hj, rfl⟩ := List.mem_iff_getElem.1 hD
      have hp := List.pairwise_iff_getElem.1 h.keys
      rcases Nat.lt_trichotomy i j with q | q | q
      · exact absurd (hk.trans h3.symm) (hp i j hi hj q)
      · subst q; rfl
      · exact absurd (h3.trans hk.symm) (hp j i hj hi q)
    rw [this]
/-- the look-up of a hash -/
theorem look_run (h : HM w F p M D u n C) {hk : Nat} (hlt : hk < 18446744073709551616) : ∃ v, (Instr.lookup 59 (.map (some M)) (.int .u64 hk) false).run Try.prog w = .ok v w ∧ atH D hk v := by
  have hkey : keyOf Try.prog 26 (.int .u64 (hk : Nat)) = some (.int .u64 (hk : Nat)) := keyOf_int_mk Try.underlying26 (WalkArith.wf_u64 (by omega))
  obtain ⟨v, ps, hrun, hv⟩ := h.mp.lookup keyU Try.underlying59 (z := .slice none 0 0) (by first | rfl | kernel_rfl) rfl hkey
  refine ⟨v, hrun, ?_⟩
  simp [heldE] at hv
  exact hv.1.symm
set_option maxHeartbeats 2000000 in
theorem find_any (h : HM w F p M D u n C) (A : Option Addr) (ca : Nat) (hok : allOk key) (lk : key.length ≤ 1000) (ha : ValsIn w A key) :
    Gives Try.prog 24 #[.pointer (some ⟨p, 0, none⟩), .slice A key.length ca] w (fnd C key) := by
  have HG := Lib.hid (fun x => hash_any A ca key hok (more w x) (by omega) (ha.more x))
  have RW := Lib.hid (fun c (hc : c ∈ C) x => rows_any c.kA A c.kc ca c.key key (h.each c hc).kok hok (more w x) (by have := (h.each c hc).klen; omega) (by omega) ((h.each c hc).kv.more x) (ha.more x))
  have c1 : w.cell? ⟨p, 1, none⟩ = some (.map (some M)) := h.box.cell 1
  have hpl := h.box.lt
  obtain ⟨v, hv, ho, _⟩ := h.rows (hashV key) (hashV_lt key)
  have LK : ∀ x, (Instr.lookup 59 (.map (some M)) (.int .u64 (hashV key : Nat)) false).run Try.prog (more w x) = .ok v (more w x) := fun x => by
    obtain ⟨v2, q1, q2⟩ := look_run (h.below (more_below w x)) (hashV_lt key)
    have : v2 = v := by unfold atH at hv q2; rw [hv] at q2; injection q2 with q2; exact q2.symm
    rw [this] at q1; exact q1
  obtain ⟨S, cp, rfl, h1, h2, h3, h4⟩ := own_open ho
  have HS := Lib.hid (show ∀ j (hj : j < (ofH C (hashV key)).length), ∃ g, S = some ⟨g, 0, none⟩ ∧ g < w.heap.size ∧ w.cell? ⟨g, j, none⟩ = some (chnP (ofH C (hashV key))[j]) from fun j hj => by
    obtain ⟨g, q1, _, q3, q4⟩ := h4 (by omega)
    exact ⟨g, q1, q3, q4 j _ (by rw [List.getElem?_map, List.getElem?_eq_getElem hj]; rfl)⟩)
  have HC := Lib.hid (show ∀ c ∈ C, c.b < w.heap.size ∧ w.cell? ⟨c.b, 0, none⟩ = some (.slice c.kA c.key.length c.kc) from fun c hc => ⟨(h.each c hc).box.lt, (h.each c hc).box.cell 0⟩)
  have hmem : Hid (∀ c ∈ ofH C (hashV key), c ∈ C) := Lib.hid (fun c hc => (List.mem_filter.1 hc).1)
  have hfd : Hid (fnd C key = match (ofH C (hashV key)).find? (fun c => rowsV c.key key == 0) with | some c => chnP c | none => .pointer none) := Lib.hid rfl
  clear h ho hv h4 h3 ha hok
  generalize ofH C (hashV key) = L at *
  go_enter Try.func24, Try.ntmps24
  go_wp2_with fail
  refine wp_region_more (by kernel_rfl) (by kernel_rfl) ?_
  repeat (go_big_quiet_step (((with_reducible exact (HG.out _).at_))))
  refine wpQuiet_nil ?_
  rintro _ ⟨x0, rfl⟩
  go_wp2_with fail
  go_loopw [15] (fun t wr => ∃ (j : Nat) (x : Ext), t = .int .i64 j ∧ j ≤ L.length ∧ wr = more w x ∧ Hid (∀ i (hi : i < L.length), i < j → (rowsV L[i].key key == 0) = false)) (fun t _ => L.length - (intOf t).toNat)
  case atStart => exact ⟨0, _, rfl, by omega, rfl, Lib.hid (fun i h1 h2 => by omega)⟩
  case round =>
    obtain ⟨j, x, rfl, hj, rfl, hlow⟩ := hrel
    by_cases hlt : j < L.length
    · have hlt' : (j : Int) < (L.length : Int) := by omega
      obtain ⟨g, rfl, hg, a0⟩ := HS.out j hlt
      have hcm := hmem.out _ (List.getElem_mem hlt)
      obtain ⟨hb, b0⟩ := HC.out _ hcm
      have RWj := Lib.hid (fun y => RW.out _ hcm y)
      replace a0 := fun y => (more_cell w y _ hg).trans a0
      replace b0 := fun y => (more_cell w y _ hb).trans b0
      have hstep := Lib.hid (show (rowsV L[j].key key == 0) = false → ∀ i (hi : i < L.length), i < j + 1 → (rowsV L[i].key key == 0) = false from fun e i h1 h2 => by
        rcases Nat.lt_or_ge i j with q | q
        · exact hlow.out i h1 q
        · have : i = j := by omega
          subst this; exact e)
      have hyes := Lib.hid (show (rowsV L[j].key key == 0) = true → fnd C key = chnP L[j] from fun e => by
        rw [hfd.out]
        have : L.find? (fun c => rowsV c.key key == 0) = some L[j] := by
          rw [List.find?_eq_some_iff_getElem]
          exact ⟨e, j, hlt, rfl, fun i hi => by have := hlow.out i (by omega) hi; simp only [this]; rfl⟩
        rw [this])
      clear hlow hcm RW HG LK
      generalize L[j] = c at *
      generalize rowsV c.key key = rv at *
      go_wp2_with fail
      refine (RWj.out _).mono' ?_; intro y
      cases hr : (rv == 0) with
      | true =>
        have e1 := Lib.hid (hyes.out hr)
        clear hyes hstep
        go_wp2
        go_ret
        exact ⟨congrArg Ending.returned e1.out.symm, (more_of_below (by repeat (first | (with_reducible exact Below.refl _ _) | (with_reducible refine Below.drew ?_) | (with_reducible refine Below.alloc ?_ (by simp [more_size]; try omega) _) | (with_reducible refine Below.setCell ?_ (by simp [more_size]; try omega) _) | (with_reducible refine below_more ?_ _ (by simp [more_size]; try omega)))))⟩
      | false =>
        have e1 := Lib.hid (hstep.out hr)
        clear hyes hstep
        go_wp2
        exact ⟨⟨j + 1, _, by go_num, by omega, rfl, e1⟩, by simp [intOf]; omega⟩
    · have hlt' : ((j : Int) < (L.length : Int)) = False := eq_false (by omega)
      have e1 : fnd C key = .pointer none := by
        rw [hfd.out]
        have : L.find? (fun c => rowsV c.key key == 0) = none := by
          rw [List.find?_eq_none]
          intro c hc
          obtain ⟨i, hi, rfl⟩ := List.mem_iff_getElem.1 hc
          have := hlow.out i hi (by omega)
          simp [this]
        rw [this]
      replace e1 := Lib.hid e1
      clear hlow
      go_wp2
      go_ret
      exact ⟨congrArg Ending.returned e1.out.symm, (more_of_below (by repeat (first | (with_reducible exact Below.refl _ _) | (with_reducible refine Below.drew ?_) | (with_reducible refine Below.alloc ?_ (by simp [more_size]; try omega) _) | (with_reducible refine Below.setCell ?_ (by simp [more_size]; try omega) _) | (with_reducible refine below_more ?_ _ (by simp [more_size]; try omega)))))⟩
end
end Go.Proofs.Ytijegkiapbmekaa
