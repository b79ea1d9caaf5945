/- HashRows: keys of several values are the same only if all are, in order. -/
import Derived.Test.YtijegkiapbmekaaHknown
import Derived.Test.YtijegkiapbmekaaHashR
import Derived.Test.YtijegkiapbmekaaOpen
set_option maxRecDepth 100000
set_option linter.unusedVariables false
set_option linter.unusedSimpArgs false
namespace Go.Proofs.Ytijegkiapbmekaa
open Go.RowKit
open Go.Maps (has size Keyed int_keyed keyOf_int_mk)
attribute [local go_sem] run_frombits run_tobits more_more more_drew more_drewN more_size more_cell more_frozen run_store_float lt_c1 le_c1 lt_s1 le_s1 lt_c2 le_c2 lt_s2 le_s2 lt_c3 le_c3 lt_s3 le_s3 lt_c4 le_c4 lt_s4 le_s4 lt_c5 le_c5 lt_s5 le_s5 lt_c6 le_c6 lt_s6 le_s6 lt_c7 le_c7 lt_s7 le_s7 lt_c8 le_c8 lt_s8 le_s8 lt_c9 le_c9 lt_s9 le_s9 lt_c10 le_c10 lt_s10 le_s10 lt_c11 le_c11 lt_s11 le_s11 lt_c12 le_c12 lt_s12 le_s12 le_c0
set_option maxHeartbeats 1000000 in
theorem vals_yes (A B : Option Addr) (ca cb : Nat) (l : List Val) (hl : allOk l) (w : World) (la : l.length ≤ 1000) (ha : ValsIn w A l) (hb : ValsIn w B l) :
    Gives Try.prog 14 #[.slice A l.length ca, .slice B l.length cb] w (.bool true) := by
  have R := rows_ref A B ca cb l l hl hl w (by omega) (by omega) ha hb
  rw [rowsV_self l hl] at R
  replace R := Lib.hid R
  clear ha hb hl
  go_enter Try.func14, Try.ntmps14
  go_wp2_with fail
  refine R.out.mono' ?_; intro x
  go_wp2
  go_ret
  exact ⟨rfl, _, rfl⟩
set_option maxHeartbeats 1000000 in
theorem vals_no (A B : Option Addr) (ca cb : Nat) (l m : List Val) (hl : allOk l) (hm : allOk m) (w : World) (la : l.length ≤ 1000) (lb : m.length ≤ 1000) (ha : ValsIn w A l) (hb : ValsIn w B m) (hne : l ≠ m) :
    Gives Try.prog 14 #[.slice A l.length ca, .slice B m.length cb] w (.bool false) := by
  have R := Lib.hid (rows_ref A B ca cb l m hl hm w (by omega) (by omega) ha hb)
  have hr : (rowsV l m == 0) = false := by
    cases h : (rowsV l m == 0) with
    | false => rfl
    | true => exact absurd (rowsV_zero l m hl hm (by simpa using h)) hne
  clear ha hb hl hm hne
  generalize rowsV l m = r at *
  by_cases e : l.length = m.length
  · rw [e] at R ⊢
    clear e
    go_enter Try.func14, Try.ntmps14
    go_wp2_with fail
    refine R.out.mono' ?_; intro x
    go_wp2
    go_ret
    exact ⟨rfl, _, rfl⟩
  · have e1 : ((l.length : Int) == (m.length : Int)) = false := by simp; omega
    clear e R
    go_enter Try.func14, Try.ntmps14
    go_wp2
    go_ret
    exact ⟨rfl, (more_of_below (by repeat (first | (with_reducible exact Below.refl _ _) | (with_reducible refine Below.drew ?_) | (with_reducible refine Below.alloc ?_ (by simp [more_size]; try omega) _) | (with_reducible refine Below.setCell ?_ (by simp [more_size]; try omega) _) | (with_reducible refine below_more ?_ _ (by simp [more_size]; try omega)))))⟩
/-- a copy of the statement's own -/
theorem copyA (A : Option Addr) (ca : Nat) (l : List Val) (w : World) (la : l.length ≤ 1000) (hA : A = none → ca = 0 ∧ l.length = 0) (ha : ValsIn w A l) :
    Calls Try.prog 13 #[.slice A l.length ca] w fun e w' => ∃ B cb, e = .returned (.slice B l.length cb) ∧ (B = none → cb = 0 ∧ l.length = 0) ∧ ValsIn w' B l ∧ Below w.heap.size w w' := by
  refine (copy_any A ca l w (by omega) (fun e => ⟨(hA e).1, List.eq_nil_of_length_eq_zero (hA e).2⟩) ha).mono ?_
  rintro e w' ⟨v, rfl, own, hB⟩
  obtain ⟨B, cb, rfl⟩ := own_form9 own
  obtain ⟨B9, c9, e9, _, _, _, hv⟩ := own_vals own
  injection e9 with e9
  subst e9
  exact ⟨B, cb, rfl, own_nil9 own, hv, hB⟩
set_option maxHeartbeats 4000000 in
theorem walk_HashRows (A B : Option Addr) (ca cb : Nat) (l m l' : List Val) (z : Val) (hl' : l = l' ++ [z]) (hl : allOk l) (hm : allOk m) (h5 : l.length ≤ 5) (m5 : m.length ≤ 5) (w : World) (lc : l.length ≤ ca) (lc2 : ca ≤ 9223372036854775807) (hA : A = none → ca = 0) (hB : B = none → cb = 0 ∧ m.length = 0) (ha : ValsIn w A l) (hb : ValsIn w B m) (f1 : fewV l 5 = true) (f2 : fewV m 5 = true) :
    Gives Try.prog 4 #[.slice A l.length ca, .slice B m.length cb] w (.bool true) := by
  have F1 := Lib.hid (fun W (h : Below w.heap.size w W) => few_any A ca l 5 W (by omega) (ha.below h))
  have F2 := Lib.hid (fun W (h : Below w.heap.size w W) => few_any B cb m 5 W (by omega) (hb.below h))
  rw [f1] at F1
  rw [f2] at F2
  have hk : l.length = l'.length + 1 := by rw [hl']; simp
  have ha' : ValsIn w A l' := fun j hj => by
    obtain ⟨b, o, e, hlt, hc⟩ := ha j (by omega)
    refine ⟨b, o, e, hlt, fun i hi => ?_⟩
    have := hc i (by omega)
    have e2 : l[i]'(by omega) = l'[i] := by simp [hl', List.getElem_append_left hi]
    rw [e2] at this
    exact this
  have hAs : ∃ a, A = some a := by
    obtain ⟨b, o, e, _⟩ := ha 0 (by omega)
    exact ⟨_, e⟩
  obtain ⟨a0, rfl⟩ := hAs
  have hlok' : allOk l' := fun v hv => hl v (by rw [hl']; simp [hv])
  have CA := Lib.hid (fun W (h : Below w.heap.size w W) => copyA (some a0) ca l W (by omega) (fun e => by cases e) (ha.below h))
  have CA' := Lib.hid (fun W (h : Below w.heap.size w W) => copyA (some a0) ca l' W (by omega) (fun e => by cases e) (ha'.below h))
  have CB := Lib.hid (fun W (h : Below w.heap.size w W) => copyA B cb m W (by omega) hB (hb.below h))
  rw [hk] at F1 CA ⊢
  go_enter Try.func4, Try.ntmps4
  go_wp2_with fail
  refine (known10 _).mono' ?_; intro x
  go_wp2_with fail
  refine (F1.out _ (by repeat (first | (with_reducible exact Below.refl _ _) | (with_reducible refine Below.drew ?_) | (with_reducible refine Below.alloc ?_ (by simp [more_size]; try omega) _) | (with_reducible refine Below.setCell ?_ (by simp [more_size]; try omega) _) | (with_reducible refine below_more ?_ _ (by simp [more_size]; try omega))))).mono ?_; rintro e w' ⟨rfl, rfl⟩
  go_wp2_with fail
  refine (F2.out _ (by repeat (first | (with_reducible exact Below.refl _ _) | (with_reducible refine Below.drew ?_) | (with_reducible refine Below.alloc ?_ (by simp [more_size]; try omega) _) | (with_reducible refine Below.setCell ?_ (by simp [more_size]; try omega) _) | (with_reducible refine below_more ?_ _ (by simp [more_size]; try omega))))).mono ?_; rintro e w' ⟨rfl, rfl⟩
  have hkz : ((l'.length : Int) + 1 == 0) = false := by simp; omega
  go_wp2_with fail
  refine (hi_new true (w0 := w) (by repeat (first | (with_reducible exact Below.refl _ _) | (with_reducible refine Below.drew ?_) | (with_reducible refine Below.alloc ?_ (by simp [more_size]; try omega) _) | (with_reducible refine Below.setCell ?_ (by simp [more_size]; try omega) _) | (with_reducible refine below_more ?_ _ (by simp [more_size]; try omega))))).mono ?_
  rintro e w1 ⟨p, rfl, h1⟩
  have C1 := Lib.hid (CA.out w1 h1.bel)
  replace h1 := Lib.hid h1
  clear F1 F2 CA
  go_wp2_with fail
  refine C1.out.mono ?_
  rintro e w2 ⟨B1, cb1, rfl, n1, v1, hB2⟩
  have IN1 := Lib.hid (hi_ins (key := l) (h1.out.below hB2) B1 cb1 hl (by omega) (fun e => by have := n1 e; omega) v1 (fun c hc => by cases hc) 1 (by decide) (by decide))
  rw [hk] at IN1
  clear C1 n1 v1 hB2 h1
  go_wp2_with fail
  refine IN1.out.mono ?_
  rintro e w3 ⟨rfl, c1, k1, i1, h3⟩
  rw [List.nil_append] at h3
  have C2 := Lib.hid (CA'.out w3 h3.bel)
  replace h3 := Lib.hid h3
  replace k1 := Lib.hid k1
  replace i1 := Lib.hid i1
  clear IN1 CA'
  have hkn : IntKind.i64.wrap ((l'.length : Int) + 1 - 1) = (l'.length : Int) := by rw [show (l'.length : Int) + 1 - 1 = l'.length by omega]; exact IntWalk.i64_in _ (by omega)
  have hkw : wrap64 ((l'.length : Int) + 1 - 1) = (l'.length : Int) := by unfold wrap64; omega
  have hkc : (l'.length : Int) ≤ (ca : Int) := by omega
  have hkc2 : l'.length ≤ ca := by omega
  go_wp2_with fail
  refine C2.out.mono ?_
  rintro e w4 ⟨B2, cb2, rfl, n2, v2, hB4⟩
  have hne : l ≠ l' := fun e => by have := congrArg List.length e; omega
  have IN2 := Lib.hid (hi_ins (key := l') (h3.out.below hB4) B2 cb2 hlok' (by omega) (fun e => by have := n2 e; omega) v2 (fun c hc => by simp at hc; subst hc; rw [k1.out]; exact hne) 2 (by decide) (by simp))
  clear C2 n2 v2 hB4 h3 hne
  go_wp2_with fail
  refine IN2.out.mono ?_
  rintro e w5 ⟨rfl, c2, k2, i2, h5'⟩
  have hS : HI w w5 p true (0 + 1 + 1) [c1, c2] := h5'
  obtain ⟨sm, hsm⟩ : ∃ r : Bool, (r = true ↔ l = m) := by
    by_cases h : l = m
    · exact ⟨true, by simp [h]⟩
    · exact ⟨false, by simp [h]⟩
  obtain ⟨sh, hsh⟩ : ∃ r : Bool, (r = true ↔ l' = m) := by
    by_cases h : l' = m
    · exact ⟨true, by simp [h]⟩
    · exact ⟨false, by simp [h]⟩
  have V1 := Lib.hid (show ∀ W, Below w.heap.size w W → Gives Try.prog 14 #[.slice (some a0) l.length ca, .slice B m.length cb] W (.bool sm) from fun W hW => by
    cases sm with
    | true =>
      have e := hsm.1 rfl
      subst e
      exact vals_yes _ _ _ _ _ hl W (by omega) (ha.below hW) (hb.below hW)
    | false => exact vals_no _ _ _ _ _ _ hl hm W (by omega) (by omega) (ha.below hW) (hb.below hW) (fun e => by have := hsm.2 e; cases this))
  have V2 := Lib.hid (show ∀ W, Below w.heap.size w W → Gives Try.prog 14 #[.slice (some a0) l'.length ca, .slice B m.length cb] W (.bool sh) from fun W hW => by
    cases sh with
    | true =>
      have e := hsh.1 rfl
      subst e
      exact vals_yes _ _ _ _ _ hlok' W (by omega) (ha'.below hW) (hb.below hW)
    | false => exact vals_no _ _ _ _ _ _ hlok' hm W (by omega) (by omega) (ha'.below hW) (hb.below hW) (fun e => by have := hsh.2 e; cases this))
  rw [hk] at V1
  replace hS := Lib.hid hS
  replace k2 := Lib.hid k2
  replace i2 := Lib.hid i2
  replace hsm := Lib.hid hsm
  replace hsh := Lib.hid hsh
  clear IN2 h5'
  go_wp2_with fail
  refine (V1.out _ hS.out.bel).mono' ?_; intro x1
  have hS1 := Lib.hid (hS.out.below (more_below w5 x1))
  generalize more w5 x1 = w6 at *
  clear hS V1
  go_wp2_with fail
  refine (V2.out _ hS1.out.bel).mono' ?_; intro x2
  have hS2 := Lib.hid (hS1.out.below (more_below w6 x2))
  generalize more w6 x2 = w7 at *
  clear hS1 V2
  go_wp2_with fail
  refine (CB.out _ hS2.out.bel).mono ?_
  rintro e w8 ⟨B3, cb3, rfl, n3, v3, hB8⟩
  have hS3 := Lib.hid (hS2.out.below hB8)
  have INS := Lib.hid (show Calls Try.prog 9 #[.pointer (some ⟨p, 0, none⟩), .slice B3 m.length cb3, .int .i64 3] w8 fun e w' => ∃ (n : Int) (C : List Chn) (er : Int), e = .returned (.int .i64 er) ∧ Hid (HI w w' p true n C ∧ c1 ∈ C ∧ (∃ c ∈ C, c.key = m ∧ c.ids.length ≤ 1000 ∧ (3 ∈ c.ids ↔ er = 0))) ∧ ((er = 80 ∧ sm = true) ∨ (er = 80 ∧ sm = false ∧ sh = true) ∨ (er = 0 ∧ sm = false ∧ sh = false)) from by
    have hx := hS3.out
    have hx2 := hx
    obtain ⟨F, M, D, q1, q2, q3⟩ := hx2
    cases hsm1 : sm with
    | true =>
      have e := hsm.out.1 hsm1
      refine (hins_dup q1 B3 cb3 hm (by omega) v3 (c := c1) (by simp) (k1.out.trans e) (by rw [i1.out]; decide) 3 (by rw [i1.out]; decide)).mono' ?_
      intro y
      exact ⟨_, _, 80, rfl, Lib.hid ⟨hx.below (more_below _ y), by simp, c1, by simp, k1.out.trans e, by rw [i1.out]; decide, by rw [i1.out]; decide⟩, .inl ⟨rfl, rfl⟩⟩
    | false =>
      cases hsh1 : sh with
      | true =>
        have e := hsh.out.1 hsh1
        refine (hins_dup q1 B3 cb3 hm (by omega) v3 (c := c2) (by simp) (k2.out.trans e) (by rw [i2.out]; decide) 3 (by rw [i2.out]; decide)).mono' ?_
        intro y
        exact ⟨_, _, 80, rfl, Lib.hid ⟨hx.below (more_below _ y), by simp, c2, by simp, k2.out.trans e, by rw [i2.out]; decide, by rw [i2.out]; decide⟩, .inr (.inl ⟨rfl, rfl, rfl⟩)⟩
      | false =>
        refine (hi_ins (key := m) hx B3 cb3 hm (by omega) n3 v3 (fun c hc e => ?_) 3 (by decide) (by simp)).mono ?_
        · rcases List.mem_cons.1 hc with rfl | hc
          · have := hsm.out.2 (k1.out.symm.trans e); rw [hsm1] at this; cases this
          · simp at hc; subst hc
            have := hsh.out.2 (k2.out.symm.trans e); rw [hsh1] at this; cases this
        · rintro e w' ⟨rfl, c3, k3, i3, h9⟩
          exact ⟨_, _, 0, rfl, Lib.hid ⟨h9, by simp, c3, by simp, k3, by rw [i3]; decide, by rw [i3]; decide⟩, .inr (.inr ⟨rfl, rfl, rfl⟩)⟩)
  have HS := Lib.hid (show ∀ W n C, HI w W p true n C → c1 ∈ C → Gives Try.prog 15 #[.pointer (some ⟨p, 0, none⟩), .slice (some a0) l.length ca, .int .i64 1] W (.bool true) ∧ Gives Try.prog 15 #[.pointer (some ⟨p, 0, none⟩), .slice (some a0) l.length ca, .int .i64 2] W (.bool false) from fun W n C hW hc => by
    have hbW := hW.bel
    obtain ⟨F, M, D, q1, q2, q3⟩ := hW
    have g1 := has_yes q1 (some a0) ca hl (by omega) (ha.below hbW) hc k1.out (by rw [i1.out]; decide) 1
    have g2 := has_yes q1 (some a0) ca hl (by omega) (ha.below hbW) hc k1.out (by rw [i1.out]; decide) 2
    rw [i1.out] at g1 g2
    exact ⟨g1, g2⟩)
  have HSB := Lib.hid (show ∀ W n C (er : Int), HI w W p true n C → (∃ c ∈ C, c.key = m ∧ c.ids.length ≤ 1000 ∧ (3 ∈ c.ids ↔ er = 0)) → Gives Try.prog 15 #[.pointer (some ⟨p, 0, none⟩), .slice B m.length cb, .int .i64 3] W (.bool (decide (er = 0))) from fun W n C er hW hc => by
    have hbW := hW.bel
    obtain ⟨F, M, D, q1, q2, q3⟩ := hW
    obtain ⟨c, c1, c2, c3, c4⟩ := hc
    have g1 := has_yes q1 B cb hm (by omega) (hb.below hbW) c1 c2 c3 3
    rw [show decide (3 ∈ c.ids) = decide (er = 0) from decide_eq_decide.2 c4] at g1
    exact g1)
  rw [hk] at HS
  clear CB n3 v3 hB8 hS2 hsm hsh
  go_wp2_with fail
  refine INS.out.mono ?_
  rintro e w9 ⟨n, C, er, rfl, hS9, hcs⟩
  clear INS hS3
  rcases hcs with ⟨rfl, rfl⟩ | ⟨rfl, rfl, rfl⟩ | ⟨rfl, rfl, rfl⟩
  all_goals
    have G1 := Lib.hid (fun W (h : HI w W p true n C) => HS.out W n C h hS9.out.2.1)
    have G2 := Lib.hid (fun W (h : HI w W p true n C) => HSB.out W n C _ h hS9.out.2.2)
    have h9 := Lib.hid hS9.out.1
    clear hS9 HS HSB
    go_wp2_with fail
    refine (G1.out _ h9.out).1.mono' ?_; intro y1
    have h10 := Lib.hid (h9.out.below (more_below w9 y1))
    generalize more w9 y1 = w10 at *
    clear h9
    go_wp2_with fail
    refine (G1.out _ h10.out).2.mono' ?_; intro y2
    have h11 := Lib.hid (h10.out.below (more_below w10 y2))
    generalize more w10 y2 = w11 at *
    clear h10
    go_wp2_with fail
    refine (G2.out _ h11.out).mono' ?_; intro y3
    have h12 := Lib.hid (h11.out.below (more_below w11 y3)).bel
    clear h11 G1 G2
    go_wp2
    go_ret
    exact ⟨rfl, more_of_below h12.out⟩
set_option maxHeartbeats 4000000 in
theorem walk_HashRows0 (A B : Option Addr) (ca cb : Nat) (l m : List Val) (w : World) (la : l.length ≤ 9223372036854775807) (lb : m.length ≤ 9223372036854775807) (ha : ValsIn w A l) (hb : ValsIn w B m) (hc : fewV l 5 = false ∨ (fewV l 5 = true ∧ fewV m 5 = false) ∨ (fewV l 5 = true ∧ fewV m 5 = true ∧ l.length = 0)) :
    Gives Try.prog 4 #[.slice A l.length ca, .slice B m.length cb] w (.bool true) := by
  have F1 := Lib.hid (fun W (h : Below w.heap.size w W) => few_any A ca l 5 W la (ha.below h))
  have F2 := Lib.hid (fun W (h : Below w.heap.size w W) => few_any B cb m 5 W lb (hb.below h))
  clear ha hb la lb
  rcases hc with f1 | ⟨f1, f2⟩ | ⟨f1, f2, h0⟩
  · rw [f1] at F1
    clear f1
    go_enter Try.func4, Try.ntmps4
    go_wp2_with fail
    refine (known10 _).mono' ?_; intro x
    go_wp2_with fail
    refine (F1.out _ (by repeat (first | (with_reducible exact Below.refl _ _) | (with_reducible refine Below.drew ?_) | (with_reducible refine Below.alloc ?_ (by simp [more_size]; try omega) _) | (with_reducible refine Below.setCell ?_ (by simp [more_size]; try omega) _) | (with_reducible refine below_more ?_ _ (by simp [more_size]; try omega))))).mono ?_; rintro e w' ⟨rfl, rfl⟩
    go_wp2
    go_ret
    exact ⟨rfl, (more_of_below (by repeat (first | (with_reducible exact Below.refl _ _) | (with_reducible refine Below.drew ?_) | (with_reducible refine Below.alloc ?_ (by simp [more_size]; try omega) _) | (with_reducible refine Below.setCell ?_ (by simp [more_size]; try omega) _) | (with_reducible refine below_more ?_ _ (by simp [more_size]; try omega)))))⟩
  · rw [f1] at F1
    rw [f2] at F2
    clear f1 f2
    go_enter Try.func4, Try.ntmps4
    go_wp2_with fail
    refine (known10 _).mono' ?_; intro x
    go_wp2_with fail
    refine (F1.out _ (by repeat (first | (with_reducible exact Below.refl _ _) | (with_reducible refine Below.drew ?_) | (with_reducible refine Below.alloc ?_ (by simp [more_size]; try omega) _) | (with_reducible refine Below.setCell ?_ (by simp [more_size]; try omega) _) | (with_reducible refine below_more ?_ _ (by simp [more_size]; try omega))))).mono ?_; rintro e w' ⟨rfl, rfl⟩
    go_wp2_with fail
    refine (F2.out _ (by repeat (first | (with_reducible exact Below.refl _ _) | (with_reducible refine Below.drew ?_) | (with_reducible refine Below.alloc ?_ (by simp [more_size]; try omega) _) | (with_reducible refine Below.setCell ?_ (by simp [more_size]; try omega) _) | (with_reducible refine below_more ?_ _ (by simp [more_size]; try omega))))).mono ?_; rintro e w' ⟨rfl, rfl⟩
    go_wp2
    go_ret
    exact ⟨rfl, (more_of_below (by repeat (first | (with_reducible exact Below.refl _ _) | (with_reducible refine Below.drew ?_) | (with_reducible refine Below.alloc ?_ (by simp [more_size]; try omega) _) | (with_reducible refine Below.setCell ?_ (by simp [more_size]; try omega) _) | (with_reducible refine below_more ?_ _ (by simp [more_size]; try omega)))))⟩
  · rw [f1] at F1
    rw [f2] at F2
    rw [h0] at F1 ⊢
    clear f1 f2 h0
    go_enter Try.func4, Try.ntmps4
    go_wp2_with fail
    refine (known10 _).mono' ?_; intro x
    go_wp2_with fail
    refine (F1.out _ (by repeat (first | (with_reducible exact Below.refl _ _) | (with_reducible refine Below.drew ?_) | (with_reducible refine Below.alloc ?_ (by simp [more_size]; try omega) _) | (with_reducible refine Below.setCell ?_ (by simp [more_size]; try omega) _) | (with_reducible refine below_more ?_ _ (by simp [more_size]; try omega))))).mono ?_; rintro e w' ⟨rfl, rfl⟩
    go_wp2_with fail
    refine (F2.out _ (by repeat (first | (with_reducible exact Below.refl _ _) | (with_reducible refine Below.drew ?_) | (with_reducible refine Below.alloc ?_ (by simp [more_size]; try omega) _) | (with_reducible refine Below.setCell ?_ (by simp [more_size]; try omega) _) | (with_reducible refine below_more ?_ _ (by simp [more_size]; try omega))))).mono ?_; rintro e w' ⟨rfl, rfl⟩
    go_wp2
    go_ret
    exact ⟨rfl, (more_of_below (by repeat (first | (with_reducible exact Below.refl _ _) | (with_reducible refine Below.drew ?_) | (with_reducible refine Below.alloc ?_ (by simp [more_size]; try omega) _) | (with_reducible refine Below.setCell ?_ (by simp [more_size]; try omega) _) | (with_reducible refine below_more ?_ _ (by simp [more_size]; try omega)))))⟩
theorem few_len {l : List Val} {k : Int} (h : fewV l k = true) : (l.length : Int) ≤ k := by
  unfold fewV at h
  simp at h
  omega
theorem law_HashRows (v0 v1 : Value) (w : World) (h0 : IsVals w v0) (h1 : IsVals w v1) :
    Calls Try.prog 4 #[v0, v1] w fun e w' => e = .returned (.bool true) ∧ Below w.heap.size w w' := by
  obtain ⟨A, ca, l, rfl, la, lc, hA, hl, ha⟩ := h0
  obtain ⟨B, cb, m, rfl, lb, lcb, hB, hm, hb⟩ := h1
  refine law_of ?_
  by_cases f1 : fewV l 5 = true
  · by_cases f2 : fewV m 5 = true
    · rcases Nat.eq_zero_or_pos l.length with h0 | h0
      · exact walk_HashRows0 A B ca cb l m w (by omega) (by omega) ha hb (.inr (.inr ⟨f1, f2, h0⟩))
      · have e : l = l.dropLast ++ [l.getLast (List.ne_nil_of_length_pos h0)] := (List.dropLast_concat_getLast _).symm
        have q1 := few_len f1
        have q2 := few_len f2
        exact walk_HashRows A B ca cb l m _ _ e hl hm (by omega) (by omega) w la lc hA (fun e => by have := hB e; omega) ha hb f1 f2
    · exact walk_HashRows0 A B ca cb l m w (by omega) (by omega) ha hb (.inr (.inl ⟨f1, by simpa using f2⟩))
  · exact walk_HashRows0 A B ca cb l m w (by omega) (by omega) ha hb (.inl (by simpa using f1))
end Go.Proofs.Ytijegkiapbmekaa
