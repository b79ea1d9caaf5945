/- Package schema: Def. -/
import Derived.Test.YtilpgojkbgbinaaDef
set_option maxRecDepth 100000
set_option linter.unusedVariables false
set_option linter.unusedSimpArgs false
namespace Go.Proofs.Ytilpgojkbgbinaa
open Go.RowKit
attribute [local go_sem] run_frombits run_tobits more_more more_drew more_drewN more_size more_cell more_frozen run_store_float lt_c1 le_c1 lt_s1 le_s1 lt_c2 le_c2 lt_s2 le_s2 lt_c3 le_c3 lt_s3 le_s3 lt_c4 le_c4 lt_s4 le_s4 lt_c5 le_c5 lt_s5 le_s5 lt_c6 le_c6 lt_s6 le_s6 lt_c7 le_c7 lt_s7 le_s7 lt_c8 le_c8 lt_s8 le_s8 lt_c9 le_c9 lt_s9 le_s9 lt_c10 le_c10 lt_s10 le_s10 lt_c11 le_c11 lt_s11 le_s11 lt_c12 le_c12 lt_s12 le_s12 le_c0

structure Prt where
  f : Int
  h : Int
def PrtAt (w : World) (b o : Nat) (p : Prt) : Prop := w.cell? ⟨b, o, none⟩ = some (.int .i64 p.f) ∧ w.cell? ⟨b, o + 1, none⟩ = some (.int .i64 p.h)
def PartsIn (w : World) (A : Option Addr) (l : List Prt) : Prop :=
  ∀ j (h : j < l.length), ∃ b off, A = some ⟨b, off, none⟩ ∧ b < w.heap.size ∧ ∀ j (h : j < l.length), PrtAt w b (off + j * 2) l[j]
theorem PartsIn.below {w w' : World} {A : Option Addr} {l : List Prt} (h : PartsIn w A l) (hb : Below w.heap.size w w') : PartsIn w' A l := fun j hj => by
  obtain ⟨b, off, e, hlt, hc⟩ := h j hj
  refine ⟨b, off, e, Nat.lt_of_lt_of_le hlt hb.size, fun i hi => ?_⟩
  obtain ⟨c0, c1⟩ := hc i hi
  exact ⟨(hb.cell (p := ⟨b, _, none⟩) hlt).trans c0, (hb.cell (p := ⟨b, _, none⟩) hlt).trans c1⟩
def countedB (kd : Int) (n : Nat) : Bool :=
  if kd = 5 ∨ kd = 6 then n == 0 else if kd = 7 then n == 1 else decide (1 ≤ n) && decide (n ≤ 3)
set_option maxHeartbeats 2000000 in
theorem counted_any (kd : Int) (n : Nat) (w : World) :
    Calls Try.prog 75 #[.int .i64 kd, .int .i64 n] w fun e w' => e = .returned (.bool (countedB kd n)) ∧ w = w' := by
  rcases (show kd = 5 ∨ kd = 6 ∨ kd = 7 ∨ (kd ≠ 5 ∧ kd ≠ 6 ∧ kd ≠ 7) by omega) with rfl | rfl | rfl | ⟨h5, h6, h7⟩
  · have e : countedB 5 n = (n == 0) := by unfold countedB; rw [if_pos (by decide)]
    rw [e]
    go_enter Try.func75, Try.ntmps75
    go_wp2
    all_goals (go_ret; refine ⟨ret_bool ?_, rfl⟩; rw [Bool.eq_iff_iff]; simp [*] <;> omega)
  · have e : countedB 6 n = (n == 0) := by unfold countedB; rw [if_pos (by decide)]
    rw [e]
    go_enter Try.func75, Try.ntmps75
    go_wp2
    all_goals (go_ret; refine ⟨ret_bool ?_, rfl⟩; rw [Bool.eq_iff_iff]; simp [*] <;> omega)
  · have e : countedB 7 n = (n == 1) := by unfold countedB; rw [if_neg (by decide), if_pos rfl]
    rw [e]
    go_enter Try.func75, Try.ntmps75
    go_wp2
    all_goals (go_ret; refine ⟨ret_bool ?_, rfl⟩; rw [Bool.eq_iff_iff]; simp [*] <;> omega)
  · have e : countedB kd n = (decide (1 ≤ n) && decide (n ≤ 3)) := by unfold countedB; rw [if_neg (by omega), if_neg (by omega)]
    rw [e]
    have k5 : (kd == 5) = false := by rw [beq_eq_false_iff_ne]; omega
    have k6 : (kd == 6) = false := by rw [beq_eq_false_iff_ne]; omega
    have k7 : (kd == 7) = false := by rw [beq_eq_false_iff_ne]; omega
    go_enter Try.func75, Try.ntmps75
    go_wp2
    all_goals (go_ret; refine ⟨ret_bool ?_, rfl⟩; rw [Bool.eq_iff_iff]; simp [*] <;> omega)
def kindAt (s : List Fld) (f : Int) : Int := (s[f.toNat]?.map Fld.k).getD 0
def prtOk (s : List Fld) (kd : Int) (ex : List Bool) (p : Prt) : Bool := partB s.length p.f p.h ex && !(decide (kd = 7) && decide (0 ≤ p.f) && (kindAt s p.f != 3))
def defN (s : List Fld) (n : ByteArray) (kd : Int) (ps : List Prt) (c : Int) (ex co : List Bool) : Int :=
  if isF s = true then
    (if namedB n = true ∧ 1 ≤ kd ∧ kd ≤ 7 ∧ countedB kd ps.length = true ∧ comparedB kd c co = true then (if ps.all (prtOk s kd ex) = true then 0 else 82) else 82)
  else 40
theorem calls_named {P : Program} {f : FuncId} {args : Array Value} {Q : Ending → World → Prop} {w : World} {R : World → Prop} (h : R w) (k : ∀ W, R W → Calls P f args W Q) : Calls P f args w Q := k w h
set_option maxRecDepth 100000 in
set_option maxHeartbeats 4000000 in
theorem def_any (A : Option Addr) (ca : Nat) (l : List Fld) (hl : namesOk l) (w : World) (la : l.length ≤ ca) (lc : ca ≤ 9223372036854775807) (ha : FieldsIn w A l) (n : ByteArray) (ln : n.size ≤ 9223372036854775807)
    (kd c : Int) (B : Option Addr) (cb : Nat) (ps : List Prt) (lp : ps.length ≤ 9223372036854775807) (hb : PartsIn w B ps)
    (E1 E2 : Option Addr) (c1 c2 : Nat) (ex co : List Bool) (le1 : ex.length ≤ 9223372036854775807) (le2 : co.length ≤ 9223372036854775807) (he1 : HooksIn w E1 ex) (he2 : HooksIn w E2 co) :
    Gives Try.prog 20 #[.slice A l.length ca, .agg #[.string n, .int .i64 kd, .slice B ps.length cb, .int .i64 c], .agg #[.slice E1 ex.length c1, .slice E2 co.length c2]] w (.int .i64 (defN l n kd ps c ex co)) := by
  have IF := Lib.hid (fun W h => isf_any A ca l hl W la lc h)
  have NM := Lib.hid (fun W => named_any n W ln)
  have CT := Lib.hid (fun W => counted_any kd ps.length W)
  have CP := Lib.hid (fun W h => compared_any n kd c (.slice B ps.length cb) E2 c2 co (.slice E1 ex.length c1) W le2 h)
  have HA := Lib.hid ha; clear ha
  have HB := Lib.hid hb; clear hb
  have H1 := Lib.hid he1; clear he1
  have H2 := Lib.hid he2; clear he2
  go_enter Try.func20, Try.ntmps20
  go_wp2_with fail
  refine calls_named (R := fun W => Below w.heap.size w W ∧ w.heap.size + 1 < W.heap.size ∧ W.cell? ⟨w.heap.size, 0, none⟩ = some (.string n) ∧ W.cell? ⟨w.heap.size, 1, none⟩ = some (.int .i64 kd) ∧ W.cell? ⟨w.heap.size, 2, none⟩ = some (.slice B ps.length cb) ∧ W.cell? ⟨w.heap.size, 3, none⟩ = some (.int .i64 c) ∧
      W.cell? ⟨w.heap.size + 1, 0, none⟩ = some (.slice E1 ex.length c1) ∧ W.cell? ⟨w.heap.size + 1, 1, none⟩ = some (.slice E2 co.length c2)) ⟨(by repeat (first | (with_reducible exact Below.refl _ _) | (with_reducible refine Below.drew ?_) | (with_reducible refine Below.alloc ?_ (by simp [more_size]; try omega) _) | (with_reducible refine Below.setCell ?_ (by simp [more_size]; try omega) _) | (with_reducible refine below_more ?_ _ (by simp [more_size]; try omega)))), by simp, by simp [go_sem], by simp [go_sem], by simp [go_sem], by simp [go_sem], by simp [go_sem], by simp [go_sem]⟩ ?_
  rintro W ⟨bW, sW, d0, d1, d2, d3, d4, d5⟩
  have sW0 : w.heap.size < W.heap.size := by omega
  replace d0 := fun y => (more_cell W y _ sW0).trans d0
  replace d1 := fun y => (more_cell W y _ sW0).trans d1
  replace d2 := fun y => (more_cell W y _ sW0).trans d2
  replace d3 := fun y => (more_cell W y _ sW0).trans d3
  replace d4 := fun y => (more_cell W y _ sW).trans d4
  replace d5 := fun y => (more_cell W y _ sW).trans d5
  refine (IF.out _ (HA.out.below bW)).mono' ?_; intro y
  cases hf : isF l with
  | false =>
    have e := Lib.hid (show (40 : Int) = defN l n kd ps c ex co by unfold defN; rw [hf]; rfl)
    go_wp2
    go_ret
    exact ⟨ret_i64 e.out, more_of_below (below_more bW _ bW.size)⟩
  | true =>
    have e := Lib.hid (show (if namedB n = true ∧ 1 ≤ kd ∧ kd ≤ 7 ∧ countedB kd ps.length = true ∧ comparedB kd c co = true then (if ps.all (prtOk l kd ex) = true then 0 else 82) else 82) = defN l n kd ps c ex co by unfold defN; rw [if_pos hf])
    clear hf IF
    generalize namedB n = nb at *
    generalize countedB kd ps.length = ct at *
    generalize comparedB kd c co = cp at *
    cases nb with
    | false =>
      go_wp2_with fail
      refine (NM.out _).mono ?_; rintro e1 w' ⟨rfl, rfl⟩
      go_wp2
      go_ret
      exact ⟨ret_i64 (by rw [← e.out, if_neg (by simp)]), more_of_below (below_more bW _ bW.size)⟩
    | true =>
      rcases (show kd < 1 ∨ (¬ kd < 1 ∧ 7 < kd) ∨ (¬ kd < 1 ∧ ¬ 7 < kd) by omega) with q1 | ⟨q1, q2⟩ | ⟨q1, q2⟩
      · go_wp2_with fail
        refine (NM.out _).mono ?_; rintro e1 w' ⟨rfl, rfl⟩
        go_wp2
        go_ret
        exact ⟨ret_i64 (by rw [← e.out, if_neg (by omega)]), more_of_below (below_more bW _ bW.size)⟩
      · go_wp2_with fail
        refine (NM.out _).mono ?_; rintro e1 w' ⟨rfl, rfl⟩
        go_wp2
        go_ret
        exact ⟨ret_i64 (by rw [← e.out, if_neg (by omega)]), more_of_below (below_more bW _ bW.size)⟩
      · cases ct with
        | false =>
          go_wp2_with fail
          refine (NM.out _).mono ?_; rintro e1 w' ⟨rfl, rfl⟩
          go_wp2_with (first | (go_at_call 75; refine (CT.out _).mono ?_; rintro e w' ⟨rfl, rfl⟩) | fail)
          go_ret
          exact ⟨ret_i64 (by rw [← e.out, if_neg (by simp)]), more_of_below (below_more bW _ bW.size)⟩
        | true =>
          cases cp with
          | false =>
            go_wp2_with fail
            refine (NM.out _).mono ?_; rintro e1 w' ⟨rfl, rfl⟩
            go_wp2_with (first | (go_at_call 75; refine (CT.out _).mono ?_; rintro e w' ⟨rfl, rfl⟩) | (go_at_call 76; refine (CP.out _ (H2.out.below (bW.trans ((more_below W _).mono bW.size)))).mono' ?_; intro x) | fail)
            go_ret
            exact ⟨ret_i64 (by rw [← e.out, if_neg (by simp)]), more_of_below (below_more bW _ bW.size)⟩
          | true =>
            have e1 := Lib.hid (show (if ps.all (prtOk l kd ex) = true then 0 else 82) = defN l n kd ps c ex co by rw [← e.out, if_pos (show true = true ∧ 1 ≤ kd ∧ kd ≤ 7 ∧ true = true ∧ true = true from ⟨rfl, by omega, by omega, rfl, rfl⟩)])
            clear e
            go_wp2_with fail
            refine (NM.out _).mono ?_; rintro e1 w' ⟨rfl, rfl⟩
            go_wp2_with (first | (go_at_call 75; refine (CT.out _).mono ?_; rintro e w' ⟨rfl, rfl⟩) | (go_at_call 76; refine (CP.out _ (H2.out.below (bW.trans ((more_below W _).mono bW.size)))).mono' ?_; intro x) | fail)
            go_loopw [40] (fun i wr => ∃ (k : Nat) (x : Ext), k ≤ ps.length ∧ i = .int .i64 k ∧ Hid ((ps.drop k).all (prtOk l kd ex) = ps.all (prtOk l kd ex)) ∧ more W x = wr) (fun i _ => ps.length - (intOf i).toNat)
            case atStart => exact ⟨0, _, by omega, rfl, Lib.hid rfl, rfl⟩
            case round =>
              obtain ⟨k, x, hk, rfl, hr, rfl⟩ := hrel
              by_cases h1 : k < ps.length
              · have h1' : (k : Int) < (ps.length : Int) := by omega
                obtain ⟨b, off, rfl, hb, hcb⟩ := HB.out k h1
                obtain ⟨p0, p1⟩ := hcb k h1
                clear hcb
                have hbW : b < W.heap.size := Nat.lt_of_lt_of_le hb bW.size
                have P0 := fun y => (more_cell W y _ hbW).trans ((bW.cell (p := ⟨b, _, none⟩) hb).trans p0)
                have P1 := fun y => (more_cell W y _ hbW).trans ((bW.cell (p := ⟨b, _, none⟩) hb).trans p1)
                clear p0 p1
                have HS := Lib.hid (show (prtOk l kd ex ps[k] && (ps.drop (k + 1)).all (prtOk l kd ex)) = ps.all (prtOk l kd ex) by
                  rw [← hr.out, List.drop_eq_getElem_cons h1]; rfl)
                generalize ps[k] = p at *
                have PT := Lib.hid (fun W h => part_any A ca l p.f p.h E1 c1 ex (.slice E2 co.length c2) W le1 h)
                have HE := Lib.hid (show ((partB l.length p.f p.h ex && !(decide (kd = 7) && decide (0 ≤ p.f) && (kindAt l p.f != 3))) && (ps.drop (k + 1)).all (prtOk l kd ex)) = ps.all (prtOk l kd ex) from HS.out)
                have HF := Lib.hid (show ps.all (prtOk l kd ex) = false → (82 : Int) = defN l n kd ps c ex co by intro h; rw [← e1.out, h]; rfl)
                obtain ⟨pf, ph⟩ := p
                dsimp only at *
                cases hpb : partB l.length pf ph ex with
                | false =>
                  rw [hpb] at PT HE
                  go_wp2_with fail
                  refine (PT.out _ (H1.out.below (bW.trans (Below.mono (B := W.heap.size) (by repeat (first | (with_reducible exact Below.refl _ _) | (with_reducible refine Below.drew ?_) | (with_reducible refine Below.alloc ?_ (by simp [more_size]; try omega) _) | (with_reducible refine Below.setCell ?_ (by simp [more_size]; try omega) _) | (with_reducible refine below_more ?_ _ (by simp [more_size]; try omega)))) bW.size)))).mono' ?_; intro x2
                  go_wp2
                  go_ret
                  exact ⟨ret_i64 (HF.out (by rw [← HE.out]; rfl)), more_of_below (bW.trans (Below.mono (B := W.heap.size) (by repeat (first | (with_reducible exact Below.refl _ _) | (with_reducible refine Below.drew ?_) | (with_reducible refine Below.alloc ?_ (by simp [more_size]; try omega) _) | (with_reducible refine Below.setCell ?_ (by simp [more_size]; try omega) _) | (with_reducible refine below_more ?_ _ (by simp [more_size]; try omega)))) bW.size))⟩
                | true =>
                  rw [hpb] at PT HE
                  by_cases k7 : kd = 7
                  · by_cases hp0 : pf < 0
                    · have hd : decide (0 ≤ pf) = false := decide_eq_false (by omega)
                      have k7' : (kd == 7) = true := by rw [k7]; rfl
                      have k7d : decide (kd = 7) = true := decide_eq_true k7
                      replace k7d := Lib.hid k7d
                      clear k7
                      go_wp2_with fail
                      refine (PT.out _ (H1.out.below (bW.trans (Below.mono (B := W.heap.size) (by repeat (first | (with_reducible exact Below.refl _ _) | (with_reducible refine Below.drew ?_) | (with_reducible refine Below.alloc ?_ (by simp [more_size]; try omega) _) | (with_reducible refine Below.setCell ?_ (by simp [more_size]; try omega) _) | (with_reducible refine below_more ?_ _ (by simp [more_size]; try omega)))) bW.size)))).mono' ?_; intro x2
                      go_wp2
                      obtain ⟨x', e'⟩ := more_of_below (w := W) (w' := more ((more W x).alloc (Obj.cells #[Value.int IntKind.i64 pf, Value.int IntKind.i64 ph] 35)) x2) (by repeat (first | (with_reducible exact Below.refl _ _) | (with_reducible refine Below.drew ?_) | (with_reducible refine Below.alloc ?_ (by simp [more_size]; try omega) _) | (with_reducible refine Below.setCell ?_ (by simp [more_size]; try omega) _) | (with_reducible refine below_more ?_ _ (by simp [more_size]; try omega))))
                      refine ⟨⟨k + 1, x', by omega, by go_num, Lib.hid ?_, e'.symm⟩, by simp [intOf]; omega⟩
                      have := HE.out
                      rw [hd] at this
                      simpa using this
                    · have hpl : pf < (l.length : Int) := by
                        unfold partB at hpb
                        rw [if_neg (by omega)] at hpb
                        simp at hpb
                        omega
                      have k7' : (kd == 7) = true := by rw [k7]; rfl
                      have k7d : decide (kd = 7) = true := decide_eq_true k7
                      replace k7d := Lib.hid k7d
                      clear k7
                      obtain ⟨m, rfl⟩ := Int.eq_ofNat_of_zero_le (Int.not_lt.1 hp0)
                      have hm : m < l.length := by omega
                      have hka : kindAt l (m : Int) = l[m].k := by unfold kindAt; rw [Int.toNat_natCast, List.getElem?_eq_getElem hm]; rfl
                      obtain ⟨b3, off3, rfl, hb3, hcb3⟩ := HA.out m hm
                      obtain ⟨f0, f1⟩ := hcb3 m hm
                      clear hcb3
                      have hbW3 : b3 < W.heap.size := Nat.lt_of_lt_of_le hb3 bW.size
                      have F1 := fun y => (more_cell W y _ hbW3).trans ((bW.cell (p := ⟨b3, _, none⟩) hb3).trans f1)
                      clear f0 f1
                      rw [hka, k7d.out] at HE
                      clear hka
                      generalize l[m].k = kk at *
                      cases hk3 : (kk == 3) with
                      | true =>
                        have hk3' : (kk != 3) = false := by rw [bne, hk3]; rfl
                        go_wp2_with fail
                        refine (PT.out _ (H1.out.below (bW.trans (Below.mono (B := W.heap.size) (by repeat (first | (with_reducible exact Below.refl _ _) | (with_reducible refine Below.drew ?_) | (with_reducible refine Below.alloc ?_ (by simp [more_size]; try omega) _) | (with_reducible refine Below.setCell ?_ (by simp [more_size]; try omega) _) | (with_reducible refine below_more ?_ _ (by simp [more_size]; try omega)))) bW.size)))).mono' ?_; intro x2
                        go_wp2
                        obtain ⟨x', e'⟩ := more_of_below (w := W) (w' := more ((more W x).alloc (Obj.cells #[Value.int IntKind.i64 m, Value.int IntKind.i64 ph] 35)) x2) (by repeat (first | (with_reducible exact Below.refl _ _) | (with_reducible refine Below.drew ?_) | (with_reducible refine Below.alloc ?_ (by simp [more_size]; try omega) _) | (with_reducible refine Below.setCell ?_ (by simp [more_size]; try omega) _) | (with_reducible refine below_more ?_ _ (by simp [more_size]; try omega))))
                        refine ⟨⟨k + 1, x', by omega, by go_num, Lib.hid ?_, e'.symm⟩, by simp [intOf]; omega⟩
                        have := HE.out
                        rw [hk3'] at this
                        simpa using this
                      | false =>
                        have hk3' : (kk != 3) = true := by rw [bne, hk3]; rfl
                        go_wp2_with fail
                        refine (PT.out _ (H1.out.below (bW.trans (Below.mono (B := W.heap.size) (by repeat (first | (with_reducible exact Below.refl _ _) | (with_reducible refine Below.drew ?_) | (with_reducible refine Below.alloc ?_ (by simp [more_size]; try omega) _) | (with_reducible refine Below.setCell ?_ (by simp [more_size]; try omega) _) | (with_reducible refine below_more ?_ _ (by simp [more_size]; try omega)))) bW.size)))).mono' ?_; intro x2
                        go_wp2
                        go_ret
                        exact ⟨ret_i64 (HF.out (by rw [← HE.out, hk3', decide_eq_true (by omega)]; rfl)), more_of_below (bW.trans (Below.mono (B := W.heap.size) (by repeat (first | (with_reducible exact Below.refl _ _) | (with_reducible refine Below.drew ?_) | (with_reducible refine Below.alloc ?_ (by simp [more_size]; try omega) _) | (with_reducible refine Below.setCell ?_ (by simp [more_size]; try omega) _) | (with_reducible refine below_more ?_ _ (by simp [more_size]; try omega)))) bW.size))⟩
                  · have hd : decide (kd = 7) = false := decide_eq_false k7
                    have k7' : (kd == 7) = false := by rw [beq_eq_false_iff_ne]; exact k7
                    go_wp2_with fail
                    refine (PT.out _ (H1.out.below (bW.trans (Below.mono (B := W.heap.size) (by repeat (first | (with_reducible exact Below.refl _ _) | (with_reducible refine Below.drew ?_) | (with_reducible refine Below.alloc ?_ (by simp [more_size]; try omega) _) | (with_reducible refine Below.setCell ?_ (by simp [more_size]; try omega) _) | (with_reducible refine below_more ?_ _ (by simp [more_size]; try omega)))) bW.size)))).mono' ?_; intro x2
                    go_wp2
                    obtain ⟨x', e'⟩ := more_of_below (w := W) (w' := more ((more W x).alloc (Obj.cells #[Value.int IntKind.i64 pf, Value.int IntKind.i64 ph] 35)) x2) (by repeat (first | (with_reducible exact Below.refl _ _) | (with_reducible refine Below.drew ?_) | (with_reducible refine Below.alloc ?_ (by simp [more_size]; try omega) _) | (with_reducible refine Below.setCell ?_ (by simp [more_size]; try omega) _) | (with_reducible refine below_more ?_ _ (by simp [more_size]; try omega))))
                    refine ⟨⟨k + 1, x', by omega, by go_num, Lib.hid ?_, e'.symm⟩, by simp [intOf]; omega⟩
                    have := HE.out
                    rw [hd] at this
                    simpa using this
              · have h1' : ¬ (k : Int) < (ps.length : Int) := by omega
                have e2 : ps.all (prtOk l kd ex) = true := by rw [← hr.out, List.drop_eq_nil_of_le (by omega)]; rfl
                go_wp2
                go_ret
                exact ⟨ret_i64 (by rw [← e1.out, if_pos e2]), more_of_below (below_more bW _ bW.size)⟩
end Go.Proofs.Ytilpgojkbgbinaa
