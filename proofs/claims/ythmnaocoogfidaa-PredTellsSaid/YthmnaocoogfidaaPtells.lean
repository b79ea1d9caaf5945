/- PredTells: of every query, predicate and record: whether it may be, whether it holds; which of two rows stands ahead. -/
import Derived.Test.YthmnaocoogfidaaQref
import Derived.Test.YthmnaocoogfidaaBefRef
import Derived.Test.YthmnaocoogfidaaFew20
import Derived.Test.YthmnaocoogfidaaPorder
set_option maxRecDepth 100000
set_option linter.unusedVariables false
set_option linter.unusedSimpArgs false
namespace Go.Proofs.Ythmnaocoogfidaa
open Go.RowKit Go.Joins Go.ChangeShapes Go.WideShapes Go.Deep
attribute [local go_sem] run_frombits run_tobits more_more more_drew more_drewN more_size more_cell more_frozen run_store_float lt_c1 le_c1 lt_s1 le_s1 lt_c2 le_c2 lt_s2 le_s2 lt_c3 le_c3 lt_s3 le_s3 lt_c4 le_c4 lt_s4 le_s4 lt_c5 le_c5 lt_s5 le_s5 lt_c6 le_c6 lt_s6 le_s6 lt_c7 le_c7 lt_s7 le_s7 lt_c8 le_c8 lt_s8 le_s8 lt_c9 le_c9 lt_s9 le_s9 lt_c10 le_c10 lt_s10 le_s10 lt_c11 le_c11 lt_s11 le_s11 lt_c12 le_c12 lt_s12 le_s12 le_c0

section
variable {H : Type} {enc : TypeId × Value → H} {w : World} {base : Nat} {spare : Nat → Bool} {held : Bool} {r : Reach} {b0 : Nat} {v : Value} {d : DataW H} {p : List MemPlace}
def fldC' (f : Fld) : List Value := [.string f.n, .int .i64 f.k]
theorem fieldsIn_of {w : World} {A : Option Addr} {l : List Fld} (h : RowIn fldC' 2 w A l) : FieldsIn w A l := fun j hj => by
  obtain ⟨b, off, e, hb, hc⟩ := h j hj
  refine ⟨b, off, e, hb, fun i hi => ⟨?_, hc i hi 1 _ rfl⟩⟩
  have := hc i hi 0 _ rfl; simpa using this
theorem is_api_Fields (hv : Value.okWide Try.prog w r b0 51 v) (h : DataW.Trod enc Try.prog w base spare held 51 v d p) : IsRow fldC' 2 (fun f => f.n.size ≤ 9223372036854775807) w v :=
  row_open (by decide) (fun _ => rfl) Try.underlying51 (by kernel_rfl) (fun n cs x h hl => by
    obtain ⟨y0, y1, m, _, _, h0, h1⟩ := trod_struct2 Try.underlying109 h
    match cs, hl with
    | [c0, c1], _ =>
      rw [cells_string] at h0
      rw [cells_int] at h1
      obtain ⟨a, e0, ha⟩ := read_str Try.underlying9 (show DataW.trod enc Try.prog w base spare held m 9 [c0] = some y0 from h0) rfl
      obtain ⟨b, e1, _⟩ := read_int Try.underlying3 (show DataW.trod enc Try.prog w base spare held m 3 [c1] = some y1 from h1) rfl
      simp at e0 e1
      subst e0 e1
      exact ⟨⟨a, b⟩, rfl, ha⟩) hv h
theorem read_prds {n : Nat} {v : Value} {x : DataW H × List MemPlace} (h : DataW.trod enc Try.prog w base spare held n 42 [v] = some x) : IsRow prdC 6 (fun p => p.v.ok) w v :=
  row_trod (c := prdC) (s := 6) (ok := fun p => p.v.ok) (by decide) (fun _ => rfl) Try.underlying42 (by kernel_rfl) (fun n cs x h hl => by
    obtain ⟨y0, y1, y2, m, _, _, h0, h1, h2⟩ := trod_struct3 Try.underlying33 h
    match cs, hl with
    | [c0, c1, c2, c3, c4, c5], _ =>
      rw [cells_int] at h0 h1
      rw [cells_value] at h2
      obtain ⟨a, e0, _⟩ := read_int Try.underlying3 (show DataW.trod enc Try.prog w base spare held m 3 [c0] = some y0 from h0) rfl
      obtain ⟨b, e1, _⟩ := read_int Try.underlying3 (show DataW.trod enc Try.prog w base spare held m 3 [c1] = some y1 from h1) rfl
      obtain ⟨u, e2, hu⟩ := read_value (show DataW.trod enc Try.prog w base spare held m 30 [c2, c3, c4, c5] = some y2 from h2) rfl
      simp at e0 e1 e2
      obtain ⟨e2, e3, e4, e5⟩ := e2
      subst e0 e1 e2 e3 e4 e5
      exact ⟨⟨a, b, u⟩, rfl, hu⟩) h
theorem read_ords {n : Nat} {v : Value} {x : DataW H × List MemPlace} (h : DataW.trod enc Try.prog w base spare held n 45 [v] = some x) : IsRow ordC 2 (fun _ => True) w v :=
  row_trod (c := ordC) (s := 2) (ok := fun _ => True) (by decide) (fun _ => rfl) Try.underlying45 (by kernel_rfl) (fun n cs x h hl => by
    obtain ⟨y0, y1, m, _, _, h0, h1⟩ := trod_struct2 Try.underlying115 h
    match cs, hl with
    | [c0, c1], _ =>
      rw [cells_int] at h0
      rw [show Try.prog.cellsOf 4 = 1 by kernel_rfl] at h1
      obtain ⟨a, e0, _⟩ := read_int Try.underlying3 (show DataW.trod enc Try.prog w base spare held m 3 [c0] = some y0 from h0) rfl
      obtain ⟨b, e1⟩ := read_bool Try.underlying4 (show DataW.trod enc Try.prog w base spare held m 4 [c1] = some y1 from h1) rfl
      simp at e0 e1
      subst e0 e1
      exact ⟨⟨a, b⟩, rfl, trivial⟩) h
def IsQry (w : World) (v : Value) : Prop := ∃ (v0 v1 : Value) (off lim : Int), v = .agg #[v0, v1, .int .i64 off, .int .i64 lim] ∧ IsRow prdC 6 (fun p => p.v.ok) w v0 ∧ IsRow ordC 2 (fun _ => True) w v1
theorem is_api_Query (hv : Value.okWide Try.prog w r b0 53 v) (h : DataW.Trod enc Try.prog w base spare held 53 v d p) : IsQry w v := by
  obtain ⟨v0, v1, v2, v3, y0, y1, y2, y3, n, rfl, _, _, h0, h1, h2, h3⟩ := open_agg4 Try.underlying53 (by kernel_rfl) (by kernel_rfl) hv h
  obtain ⟨k, e0, _⟩ := read_int Try.underlying3 h2 rfl
  obtain ⟨i, e1, _⟩ := read_int Try.underlying3 h3 rfl
  simp at e0 e1
  subst e0 e1
  exact ⟨v0, v1, k, i, rfl, read_prds h0, read_ords h1⟩
end
set_option maxHeartbeats 8000000 in
theorem walk_PredTells (D E F A B : Option Addr) (cd ce cf ca cb : Nat) (s : List Fld) (ps : List Prd) (os : List Ord) (a b : List Val) (ia ib va vb off lim : Int) (w : World)
    (hS : namesOk s) (hP : prdsOk ps) (hA : allOk a) (hB : allOk b) (ld : s.length ≤ cd) (lcd : cd ≤ 9223372036854775807) (le : ps.length ≤ ce) (lce : ce ≤ 9223372036854775807) (lf : os.length ≤ cf) (lcf : cf ≤ 9223372036854775807) (la : a.length ≤ ca) (lca : ca ≤ 9223372036854775807) (lb : b.length ≤ cb) (lcb : cb ≤ 9223372036854775807)
    (hs : FieldsIn w D s) (hp : RowIn prdC 6 w E ps) (ho : RowIn ordC 2 w F os) (ha : ValsIn w A a) (hb : ValsIn w B b) :
    Gives Try.prog 9 #[.slice D s.length cd, .agg #[.slice E ps.length ce, .slice F os.length cf, .int .i64 off, .int .i64 lim], .agg #[.int .i64 ia, .int .i64 va, .slice A a.length ca], .agg #[.int .i64 ib, .int .i64 vb, .slice B b.length cb]] w (.bool true) := by
  have HS := Lib.hid hs
  have HP := Lib.hid hp
  have HO := Lib.hid ho
  have HA := Lib.hid ha
  have HB := Lib.hid hb
  have FA := Lib.hid (fun b0 => few_no A ca a 12 w (by omega) ha b0)
  have FB := Lib.hid (fun b0 => few_no B cb b 12 w (by omega) hb b0)
  have FS := fun W (h : Below w.heap.size w W) => few20_any D cd s W (by omega) (HS.out.below h)
  have FQ := fun W (h : Below w.heap.size w W) => query_any E F ce cf ps os off lim W (by omega) (HP.out.below h)
  have I1 := fun W (h : Below w.heap.size w W) => isq_any D E F cd ce cf s ps os off lim hS hP W ld lcd le lce lf lcf (HS.out.below h) (HP.out.below h) (HO.out.below h)
  have I2 := fun W (h : Below w.heap.size w W) => isq_ref D E F cd ce cf s ps os off lim hS hP W ld lcd le lce lf lcf (HS.out.below h) (HP.out.below h) (HO.out.below h)
  have A1 := fun W (h : Below w.heap.size w W) => all_any E ce ps.length ps hP A ca a hA W rfl (by omega) (by omega) (HP.out.below h) (HA.out.below h)
  have A2 := fun W (h : Below w.heap.size w W) => all_ref E ce ps.length ps hP A ca a hA W rfl (by omega) (by omega) (HP.out.below h) (HA.out.below h)
  have B1 := fun W (h : Below w.heap.size w W) => before_any F cf os.length os rfl (by omega) ia ib va vb A B ca cb a b hA hB W la lca lb lcb (HO.out.below h) (HA.out.below h) (HB.out.below h)
  have B2 := fun W (h : Below w.heap.size w W) => before_ref F cf os.length os rfl (by omega) ia ib va vb A B ca cb a b hA hB W la lca lb lcb (HO.out.below h) (HA.out.below h) (HB.out.below h)
  have H1 := Lib.hid (fun W (h : Below w.heap.size w W) (p : Prd) (hp : p ∈ ps) => holds_any p.f p.op p.v (hP p hp) A ca a hA W (by omega) (HA.out.below h))
  have H2 := Lib.hid (fun W (h : Below w.heap.size w W) (p : Prd) (hp : p ∈ ps) => holds_ref p.f p.op p.v (hP p hp) A ca a hA W (by omega) (HA.out.below h))
  clear hs hp ho ha hb hS hP hA hB HS HO HA HB
  generalize isqN s ps os off = rI at *
  generalize allB ps a = rA at *
  generalize befL os a b ia ib = rB at *
  generalize fewF s = fs at *
  generalize qryB ps os = fq at *
  generalize hfa : fewV a 12 = fa at *
  generalize hfb : fewV b 12 = fb at *
  replace FA := Lib.hid (FA.out fa rfl)
  replace FB := Lib.hid (FB.out fb rfl)
  replace FS := Lib.hid FS
  replace FQ := Lib.hid FQ
  replace I1 := Lib.hid I1
  replace I2 := Lib.hid I2
  replace A1 := Lib.hid A1
  replace A2 := Lib.hid A2
  replace B1 := Lib.hid B1
  replace B2 := Lib.hid B2
  clear hfa hfb
  go_enter Try.func9, Try.ntmps9
  go_wp2_with fail
  refine calls_at (R := fun W => Below w.heap.size w W ∧ Blk W w.heap.size #[.slice E ps.length ce, .slice F os.length cf, .int .i64 off, .int .i64 lim] 53 ∧ Blk W (w.heap.size + 1) #[.int .i64 ia, .int .i64 va, .slice A a.length ca] 47 ∧ Blk W (w.heap.size + 2) #[.int .i64 ib, .int .i64 vb, .slice B b.length cb] 47)
    ⟨(by repeat (first | (with_reducible exact Below.refl _ _) | (with_reducible refine Below.drew ?_) | (with_reducible refine Below.alloc ?_ (by simp [more_size]; try omega) _) | (with_reducible refine Below.setCell ?_ (by simp [more_size]; try omega) _) | (with_reducible refine below_more ?_ _ (by simp [more_size]; try omega)))), ((Blk.new _ _ _ (by simp)).alloc _).alloc _, (Blk.new _ _ _ (by simp)).alloc _, Blk.new _ _ _ (by simp)⟩ ?_
  rintro W ⟨bW, k1, k2, k3⟩
  refine (known20 _).mono' ?_; intro x0
  replace k1 := k1.more x0
  replace k2 := k2.more x0
  replace k3 := k3.more x0
  replace bW := bW.trans ((more_below W x0).mono bW.size)
  generalize more W x0 = W1 at *
  have c10 := fun y => (k1.more y).cell 0
  have c11 := fun y => (k1.more y).cell 1
  have c12 := fun y => (k1.more y).cell 2
  have c13 := fun y => (k1.more y).cell 3
  have c20 := fun y => (k2.more y).cell 0
  have c21 := fun y => (k2.more y).cell 1
  have c22 := fun y => (k2.more y).cell 2
  have c30 := fun y => (k3.more y).cell 0
  have c31 := fun y => (k3.more y).cell 1
  have c32 := fun y => (k3.more y).cell 2
  have g10 := k1.cell 0
  have g11 := k1.cell 1
  have g12 := k1.cell 2
  have g13 := k1.cell 3
  have bY := Lib.hid (fun y => bW.trans ((more_below W1 y).mono bW.size))
  have fin := Lib.hid (fun y => more_of_below (bY.out y))
  have fin0 := Lib.hid (more_of_below bW)
  replace bW := Lib.hid bW
  replace HP := Lib.hid (HP.out.below bW.out)
  clear k1 k2 k3
  cases fs with
  | false =>
    go_wp2_with fail
    refine (FS.out _ bW.out).mono ?_; rintro e w' ⟨rfl, rfl⟩
    go_wp2
    go_ret
    exact ⟨rfl, fin0.out⟩
  | true =>
    cases fq with
    | false =>
      go_wp2_with fail
      refine (FS.out _ bW.out).mono ?_; rintro e w' ⟨rfl, rfl⟩
      go_wp2_with fail
      refine (FQ.out _ bW.out).mono' ?_; intro y1
      go_wp2
      go_ret
      exact ⟨rfl, fin.out _⟩
    | true =>
      cases fa with
      | false =>
        go_wp2_with fail
        refine (FS.out _ bW.out).mono ?_; rintro e w' ⟨rfl, rfl⟩
        go_wp2_with fail
        refine (FQ.out _ bW.out).mono' ?_; intro y1
        go_wp2_with fail
        refine (FA.out _ (bY.out _)).mono ?_; rintro e w' ⟨rfl, rfl⟩
        go_wp2
        go_ret
        exact ⟨rfl, fin.out _⟩
      | true =>
        cases fb with
        | false =>
          go_wp2_with fail
          refine (FS.out _ bW.out).mono ?_; rintro e w' ⟨rfl, rfl⟩
          go_wp2_with fail
          refine (FQ.out _ bW.out).mono' ?_; intro y1
          go_wp2_with fail
          refine (FA.out _ (bY.out _)).mono ?_; rintro e w' ⟨rfl, rfl⟩
          go_wp2_with fail
          refine (FB.out _ (bY.out _)).mono ?_; rintro e w' ⟨rfl, rfl⟩
          go_wp2
          go_ret
          exact ⟨rfl, fin.out _⟩
        | true =>
          go_wp2_with fail
          refine (FS.out _ bW.out).mono ?_; rintro e w' ⟨rfl, rfl⟩
          go_wp2_with fail
          refine (FQ.out _ bW.out).mono' ?_; intro y1
          go_wp2_with fail
          refine (FA.out _ (bY.out _)).mono ?_; rintro e w' ⟨rfl, rfl⟩
          go_wp2_with fail
          refine (FB.out _ (bY.out _)).mono ?_; rintro e w' ⟨rfl, rfl⟩
          go_wp2_with fail
          have tI : (rI != rI) = false := by simp
          have tA : (rA != rA) = false := by simp
          have tB : (rB != rB) = false := by simp
          refine wp_region_more2 (by kernel_rfl) (by kernel_rfl) ?_
          repeat (go_big_quiet_step ((first | (go_at_call 28; exact (I1.out _ (bY.out _)).at_) | (go_at_call 29; exact (I2.out _ (bY.out _)).at_) | (go_at_call 23; exact (A1.out _ (bY.out _)).at_) | (go_at_call 30; exact (A2.out _ (bY.out _)).at_) | (go_at_call 25; exact (B1.out _ (bY.out _)).at_) | (go_at_call 31; exact (B2.out _ (bY.out _)).at_))))
          refine wpQuiet_nil ?_
          rintro _ ⟨y, rfl⟩
          go_wp2_with fail
          clear tI tA tB
          go_loopw [9] (fun t wr => ∃ (k : Nat) (x : Ext), k ≤ ps.length ∧ t = .int .i64 k ∧ more W1 x = wr) (fun t _ => ps.length - (intOf t).toNat)
          case atStart => exact ⟨0, _, by omega, rfl, rfl⟩
          case round =>
            obtain ⟨k, x, hk, rfl, rfl⟩ := hrel
            by_cases h1 : k < ps.length
            · have h1' : (k : Int) < (ps.length : Int) := by omega
              obtain ⟨b, of, rfl, hbl, hcb⟩ := HP.out k h1
              have hm := hcb k h1
              clear hcb
              have J1 := fun W h => H1.out W h ps[k] (List.getElem_mem h1)
              have J2 := fun W h => H2.out W h ps[k] (List.getElem_mem h1)
              generalize ps[k] = p at *
              have C0 := fun y => (more_cell W1 y _ hbl).trans (hm 0 _ rfl)
              have C1 := fun y => (more_cell W1 y _ hbl).trans (hm 1 _ rfl)
              have C2 := fun y => (more_cell W1 y _ hbl).trans (hm 2 _ rfl)
              have C3 := fun y => (more_cell W1 y _ hbl).trans (hm 3 _ rfl)
              have C4 := fun y => (more_cell W1 y _ hbl).trans (hm 4 _ rfl)
              have C5 := fun y => (more_cell W1 y _ hbl).trans (hm 5 _ rfl)
              simp only [Nat.add_zero] at C0
              clear hm
              obtain ⟨pf, pop, pk, pi, ps', pff⟩ := p
              dsimp only [predV] at *
              generalize holdsB pf pop ⟨pk, pi, ps', pff⟩ a = hh at *
              replace J1 := Lib.hid J1
              replace J2 := Lib.hid J2
              have tH : (hh != hh) = false := by simp
              go_wp2_with fail
              refine wp_region_more2 (by kernel_rfl) (by kernel_rfl) ?_
              repeat (go_big_quiet_step ((first | (go_at_call 20; exact (J1.out _ (bY.out _)).at_) | (go_at_call 32; exact (J2.out _ (bY.out _)).at_))))
              refine wpQuiet_nil ?_
              rintro _ ⟨y, rfl⟩
              go_wp2
              exact ⟨⟨k + 1, _, by omega, by go_num, rfl⟩, by simp [intOf]; omega⟩
            · have h1' : ¬ (k : Int) < (ps.length : Int) := by omega
              go_wp2
              go_ret
              exact ⟨rfl, fin.out _⟩
theorem law_PredTells (v0 v1 v2 v3 : Value) (w : World) (h0 : IsRow fldC' 2 (fun f => f.n.size ≤ 9223372036854775807) w v0) (h1 : IsQry w v1) (h2 : IsRw w v2) (h3 : IsRw w v3) :
    Calls Try.prog 9 #[v0, v1, v2, v3] w fun e w' => e = .returned (.bool true) ∧ Below w.heap.size w w' := by
  obtain ⟨D, cd, s, rfl, s1, s2, s3, s4, s5⟩ := h0
  obtain ⟨q0, q1, off, lim, rfl, ⟨E, ce, ps, rfl, p1, p2, p3, p4, p5⟩, ⟨F, cf, os, rfl, o1, o2, o3, o4, o5⟩⟩ := h1
  obtain ⟨ia, va, A, ca, a, rfl, a1, a2, a3, a4, a5, _⟩ := h2
  obtain ⟨ib, vb, B, cb, b, rfl, b1, b2, b3, b4, b5, _⟩ := h3
  exact law_of (walk_PredTells D E F A B cd ce cf ca cb s ps os a b ia ib va vb off lim w s4 p4 a4 b4 s1 s2 p1 p2 o1 o2 a1 a2 b1 b2 (fieldsIn_of s5) p5 o5 a5 b5)
end Go.Proofs.Ythmnaocoogfidaa
