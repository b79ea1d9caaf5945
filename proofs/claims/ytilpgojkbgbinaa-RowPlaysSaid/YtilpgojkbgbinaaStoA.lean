/- Package row: adds. -/
import Derived.Test.YtilpgojkbgbinaaStoW
import Derived.Maps.AppendAt
set_option maxRecDepth 100000
set_option linter.unusedVariables false
set_option linter.unusedSimpArgs false
namespace Go.Proofs.Ytilpgojkbgbinaa
open Go.RowKit
open Go.Maps (has size Keyed int_keyed keyOf_int_mk)
attribute [local go_sem] run_frombits run_tobits more_more more_drew more_drewN more_size more_cell more_frozen run_store_float lt_c1 le_c1 lt_s1 le_s1 lt_c2 le_c2 lt_s2 le_s2 lt_c3 le_c3 lt_s3 le_s3 lt_c4 le_c4 lt_s4 le_s4 lt_c5 le_c5 lt_s5 le_s5 lt_c6 le_c6 lt_s6 le_s6 lt_c7 le_c7 lt_s7 le_s7 lt_c8 le_c8 lt_s8 le_s8 lt_c9 le_c9 lt_s9 le_s9 lt_c10 le_c10 lt_s10 le_s10 lt_c11 le_c11 lt_s11 le_s11 lt_c12 le_c12 lt_s12 le_s12 le_c0
section
variable {w w' : World} {F F' : Nat → Prop}
theorem ValsIn.chg {A : Option Addr} {l : List Val} (h : ValsIn w A l) (hc : Chg F w w') (hF : ∀ x, A = some x → ¬ F x.block) : ValsIn w' A l := fun j hj => by
  obtain ⟨b, off, rfl, hb, hv⟩ := h j hj
  have e := hc.block b hb (hF _ rfl)
  refine ⟨b, off, rfl, Nat.lt_of_lt_of_le hb hc.size, fun i hi => ?_⟩
  obtain ⟨c0, c1, c2, c3⟩ := hv i hi
  have q : ∀ o, w'.cell? ⟨b, o, none⟩ = w.cell? ⟨b, o, none⟩ := fun o => World.cell?_of_block (a := ⟨b, o, none⟩) e
  exact ⟨(q _).trans c0, (q _).trans c1, (q _).trans c2, (q _).trans c3⟩
theorem Blk.chg {g : Nat} {c : Array Value} {t : TypeId} (h : Blk w g c t) (hc : Chg F w w') (hF : ¬ F g) : Blk w' g c t := (hc.block g h.lt hF).trans h
end
theorem info_row : (Try.prog.info? 63).map (fun i => (i.zero, i.size, i.bytes)) = some (some (.agg #[.int .i64 0, .int .i64 0, .slice none 0 0]), 3, 40) := by kernel_rfl
theorem own_some9 {w : World} {base : Nat} {e : TypeId} {s n : Nat} {v : Value} {xs : List Value} (h : w.ownsRow base e s v n xs) (hn : 0 < n) : ∃ g cap, v = .slice (some ⟨g, 0, none⟩) n cap := by
  rcases h.2 with ⟨_, e⟩ | ⟨g, cap, cur, rfl, hb, _⟩
  · omega
  · exact ⟨g, cap, rfl⟩
def z9 : Slt := ⟨0, 0, none, 0, []⟩
variable {w w' : World} {F F' G : Nat → Prop} {p : Nat} {sl : Option Addr} {cap : Nat} {S : List Slt} {M pf : Nat} {a : Option Nat} {m : List Int} {D : DataW Unit} {mx nx wr : Int}
theorem adds_full (h : SM w F p sl cap S M pf a m D mx nx wr) (id ver : Int) (A : Option Addr) (ca : Nat) (l : List Val) (wfi : (Lit.int .i64 id).wf = true) (hl : l.length ≤ 1000) (hA : A = none → ca = 0 ∧ l.length = 0) (ha : ValsIn w A l) (hAF : ∀ x, A = some x → ¬ F x.block) (hf : mx ≤ (size D : Int)) :
    Calls Try.prog 84 #[.pointer (some ⟨p, 0, none⟩), .agg #[.int .i64 id, .int .i64 ver, .slice A l.length ca]] w fun e w' => e = .returned (.int .i64 70) ∧ Below w.heap.size w w' := by
  have LN := Lib.hid (fun W (h : SM W F p sl cap S M pf a m D mx nx wr) => gives_of_same (len_mem h))
  have hnb : Hid (∀ k, F k → k < w.heap.size) := Lib.hid h.Flt
  replace h := Lib.hid h
  go_enter Try.func84, Try.ntmps84
  go_wp2_with fail
  refine wp_named9 (R := fun W1 => SM W1 F p sl cap S M pf a m D mx nx wr ∧ Blk W1 w.heap.size #[.int .i64 id, .int .i64 ver, .slice A l.length ca] 63 ∧ Below w.heap.size w W1) ⟨h.out.below (by repeat (first | (with_reducible exact Below.refl _ _) | (with_reducible refine Below.drew ?_) | (with_reducible refine Below.alloc ?_ (by simp [more_size]; try omega) _) | (with_reducible refine Below.setCell ?_ (by simp [more_size]; try omega) _) | (with_reducible refine below_more ?_ _ (by simp [more_size]; try omega)))), Blk.new _ _ _ rfl, (by repeat (first | (with_reducible exact Below.refl _ _) | (with_reducible refine Below.drew ?_) | (with_reducible refine Below.alloc ?_ (by simp [more_size]; try omega) _) | (with_reducible refine Below.setCell ?_ (by simp [more_size]; try omega) _) | (with_reducible refine below_more ?_ _ (by simp [more_size]; try omega))))⟩ ?_
  rintro W1 ⟨hS, hb, hB⟩
  have cm := fun y => (more_cell W1 y 3 hS.box.lt).trans (hS.box.cell 3)
  have LN1 := Lib.hid (fun y => LN.out _ (hS.below (more_below W1 y)))
  have go2 : Hid (∀ y, SM (more W1 y) F p sl cap S M pf a m D mx nx wr ∧ Blk (more W1 y) w.heap.size #[.int .i64 id, .int .i64 ver, .slice A l.length ca] 63 ∧ Below w.heap.size w (more W1 y)) := Lib.hid (fun y => ⟨hS.below (more_below W1 y), hb.more y, hB.trans ((more_below W1 y).mono hB.size)⟩)
  clear hS hb hB LN h
  refine wp_region_more (by kernel_rfl) (by kernel_rfl) ?_
  repeat (go_big_quiet_step (((with_reducible exact (LN1.out _).at_))))
  refine wpQuiet_nil ?_
  rintro _ ⟨y, rfl⟩
  obtain ⟨hS, hb, hB⟩ := go2.out y
  clear cm LN1 go2
  generalize more W1 y = W2 at *
  go_wp2
  go_ret
  exact ⟨rfl, hB⟩
set_option maxHeartbeats 4000000 in
theorem adds_free (h : SM w F p sl cap S M pf a m D mx nx wr) (id ver : Int) (A : Option Addr) (ca : Nat) (l : List Val) (wfi : (Lit.int .i64 id).wf = true) (hl : l.length ≤ 1000) (hA : A = none → ca = 0 ∧ l.length = 0) (ha : ValsIn w A l) (hAF : ∀ x, A = some x → ¬ F x.block) (hw : -9223372036854775808 ≤ wr + 1 ∧ wr + 1 < 9223372036854775808) (hf : (size D : Int) < mx) (hmx : mx ≤ 200) (hm : m ≠ []) (hmS : ∀ x ∈ m, 0 ≤ x ∧ x < (S.length : Int)) (hS200 : S.length ≤ 200) :
    Calls Try.prog 84 #[.pointer (some ⟨p, 0, none⟩), .agg #[.int .i64 id, .int .i64 ver, .slice A l.length ca]] w fun e w' => e = .returned (.int .i64 0) ∧ ∃ (kn : Nat) (F5 : Nat → Prop) (A5 : Option Addr) (ca5 : Nat), (kn : Int) ∈ m ∧ SM w' F5 p sl cap (S.set kn ⟨id, ver, A5, ca5, l⟩) M pf a (m.erase kn) (D.put (.int .i64 id) (.lit (.int .i64 kn))) mx nx (wr + 1) ∧ Chg F w w' ∧ Grew w F F5 := by
  have hf' : ((mx : Int) ≤ (size D : Int)) = False := eq_false (by omega)
  have LN := Lib.hid (fun W (h : SM W F p sl cap S M pf a m D mx nx wr) => gives_of_same (len_mem h))
  have hnb : Hid (∀ k, F k → k < w.heap.size) := Lib.hid h.Flt
  replace h := Lib.hid h
  go_enter Try.func84, Try.ntmps84
  go_wp2_with fail
  refine wp_named9 (R := fun W1 => SM W1 F p sl cap S M pf a m D mx nx wr ∧ Blk W1 w.heap.size #[.int .i64 id, .int .i64 ver, .slice A l.length ca] 63 ∧ Below w.heap.size w W1) ⟨h.out.below (by repeat (first | (with_reducible exact Below.refl _ _) | (with_reducible refine Below.drew ?_) | (with_reducible refine Below.alloc ?_ (by simp [more_size]; try omega) _) | (with_reducible refine Below.setCell ?_ (by simp [more_size]; try omega) _) | (with_reducible refine below_more ?_ _ (by simp [more_size]; try omega)))), Blk.new _ _ _ rfl, (by repeat (first | (with_reducible exact Below.refl _ _) | (with_reducible refine Below.drew ?_) | (with_reducible refine Below.alloc ?_ (by simp [more_size]; try omega) _) | (with_reducible refine Below.setCell ?_ (by simp [more_size]; try omega) _) | (with_reducible refine below_more ?_ _ (by simp [more_size]; try omega))))⟩ ?_
  rintro W1 ⟨hS, hb, hB⟩
  have cm := fun y => (more_cell W1 y 3 hS.box.lt).trans (hS.box.cell 3)
  have LN1 := Lib.hid (fun y => LN.out _ (hS.below (more_below W1 y)))
  have go2 : Hid (∀ y, SM (more W1 y) F p sl cap S M pf a m D mx nx wr ∧ Blk (more W1 y) w.heap.size #[.int .i64 id, .int .i64 ver, .slice A l.length ca] 63 ∧ Below w.heap.size w (more W1 y)) := Lib.hid (fun y => ⟨hS.below (more_below W1 y), hb.more y, hB.trans ((more_below W1 y).mono hB.size)⟩)
  clear hS hb hB LN h
  refine wp_region_more (by kernel_rfl) (by kernel_rfl) ?_
  repeat (go_big_quiet_step (((with_reducible exact (LN1.out _).at_))))
  refine wpQuiet_nil ?_
  rintro _ ⟨y, rfl⟩
  obtain ⟨hS, hb, hB⟩ := go2.out y
  clear cm LN1 go2
  generalize more W1 y = W2 at *
  have hnF : ¬ F w.heap.size := fun c => by have := hnb.out _ c; omega
  have cp2 : W2.cell? ⟨p, 2, none⟩ = some (.pointer (some ⟨pf, 0, none⟩)) := hS.box.cell 2
  have TK := Lib.hid (free_take W2 pf a m hm hS.free)
  go_wp2_with fail
  refine TK.out.mono ?_
  rintro e W3 ⟨k, rfl, hk, hle, hfr, hK⟩
  obtain ⟨kb1, kb2⟩ := hmS k hk
  obtain ⟨kn, rfl⟩ : ∃ kn : Nat, k = (kn : Int) := ⟨k.toNat, by omega⟩
  obtain ⟨hS3, HC3, HG3⟩ := hS.freed hK (.inl rfl) hfr
  obtain ⟨F3, hF3⟩ : ∃ F3 : Nat → Prop, F3 = fun k => F k ∨ a = some k := ⟨_, rfl⟩
  rw [← hF3] at hS3 HG3
  clear hF3
  have hb3 := hb.chg HC3 hnF
  clear TK hfr hK hle
  replace hk := Lib.hid hk
  have wfk : (Lit.int .i64 (kn : Int)).wf = true := WalkArith.wf_i64 (by omega)
  obtain ⟨W4, hrun, hown4, hg4⟩ := (hS3.mp.drew).update keyI Try.underlying136 (by unfold maxLen; omega) (keyOf_int_mk Try.underlying2 wfi) (plainElem_int Try.underlying3 wfk)
  obtain ⟨hS4, hC4⟩ := (hS3.below (show Below W3.heap.size W3 W3.drew from (by repeat (first | (with_reducible exact Below.refl _ _) | (with_reducible refine Below.drew ?_) | (with_reducible refine Below.alloc ?_ (by simp [more_size]; try omega) _) | (with_reducible refine Below.setCell ?_ (by simp [more_size]; try omega) _) | (with_reducible refine below_more ?_ _ (by simp [more_size]; try omega)))))).mapped hg4 (size_read hown4)
  have hCa : Chg F W2 W4 := HC3.trans HG3 ((Chg.drew).then hC4)
  have cp1 : W3.cell? ⟨p, 1, none⟩ = some (.map (some M)) := hS3.box.cell 1
  have cb0 : W3.cell? ⟨w.heap.size, 0, none⟩ = some (.int .i64 id) := hb3.cell 0
  have hb4 := hb.chg hCa hnF
  have d0 : W4.cell? ⟨w.heap.size, 0, none⟩ = some (.int .i64 id) := hb4.cell 0
  have d1 : W4.cell? ⟨w.heap.size, 1, none⟩ = some (.int .i64 ver) := hb4.cell 1
  have d2 : W4.cell? ⟨w.heap.size, 2, none⟩ = some (.slice A l.length ca) := hb4.cell 2
  have ha4 : ValsIn W4 A l := (ha.below hB).chg hCa hAF
  have WR := Lib.hid (write_mem hS4 (i := kn) (by omega) id ver A ca l hl hA ha4 hw)
  have hCa' := Lib.hid (show Chg F w W4 from (Chg.of_below hB).then hCa)
  have HGh := Lib.hid (show Grew w F F3 from ⟨HG3.1, fun k hk => (HG3.2 k hk).imp (fun h => h) (fun q => Nat.le_trans hB.size q)⟩)
  clear hb4 ha4 hS4 hC4 hown4 hg4 hCa hb3 HC3 HG3 hS3
  go_wp2_with fail
  go_region
  go_wp2_with fail
  refine WR.out.mono ?_
  rintro e W5 ⟨rfl, F5, A5, ca5, k5, c5, g5⟩
  have fin := Lib.hid (show Chg F w W5 ∧ Grew w F F5 from ⟨hCa'.out.trans HGh.out c5, HGh.out.trans hCa'.out.size g5⟩)
  replace k5 := Lib.hid k5
  clear c5 g5
  go_wp2
  go_ret
  exact ⟨rfl, kn, _, _, _, hk.out, k5.out, fin.out⟩
set_option maxHeartbeats 4000000 in
theorem adds_new (h : SM w F p sl cap S M pf a m D mx nx wr) (id ver : Int) (A : Option Addr) (ca : Nat) (l : List Val) (wfi : (Lit.int .i64 id).wf = true) (hl : l.length ≤ 1000) (hA : A = none → ca = 0 ∧ l.length = 0) (ha : ValsIn w A l) (hAF : ∀ x, A = some x → ¬ F x.block) (hw : -9223372036854775808 ≤ wr + 1 ∧ wr + 1 < 9223372036854775808) (hf : (size D : Int) < mx) (hmx : mx ≤ 200) (hm : m = []) (hS200 : S.length ≤ 200) :
    Calls Try.prog 84 #[.pointer (some ⟨p, 0, none⟩), .agg #[.int .i64 id, .int .i64 ver, .slice A l.length ca]] w fun e w' => e = .returned (.int .i64 0) ∧ ∃ (F5 : Nat → Prop) (A5 sl5 : Option Addr) (ca5 cap5 : Nat), SM w' F5 p sl5 cap5 (S ++ [⟨id, ver, A5, ca5, l⟩]) M pf a [] (D.put (.int .i64 id) (.lit (.int .i64 S.length))) mx nx (wr + 1) ∧ Chg F w w' ∧ Grew w F F5 := by
  obtain ⟨i0, hi, hz0, hz1, hz2⟩ := info_parts info_row
  have hf' : ((mx : Int) ≤ (size D : Int)) = False := eq_false (by omega)
  subst hm
  have LN := Lib.hid (fun W (h : SM W F p sl cap S M pf a [] D mx nx wr) => gives_of_same (len_mem h))
  have hnb : Hid (∀ k, F k → k < w.heap.size) := Lib.hid h.Flt
  replace h := Lib.hid h
  go_enter Try.func84, Try.ntmps84
  go_wp2_with fail
  refine wp_named9 (R := fun W1 => SM W1 F p sl cap S M pf a [] D mx nx wr ∧ Blk W1 w.heap.size #[.int .i64 id, .int .i64 ver, .slice A l.length ca] 63 ∧ Below w.heap.size w W1) ⟨h.out.below (by repeat (first | (with_reducible exact Below.refl _ _) | (with_reducible refine Below.drew ?_) | (with_reducible refine Below.alloc ?_ (by simp [more_size]; try omega) _) | (with_reducible refine Below.setCell ?_ (by simp [more_size]; try omega) _) | (with_reducible refine below_more ?_ _ (by simp [more_size]; try omega)))), Blk.new _ _ _ rfl, (by repeat (first | (with_reducible exact Below.refl _ _) | (with_reducible refine Below.drew ?_) | (with_reducible refine Below.alloc ?_ (by simp [more_size]; try omega) _) | (with_reducible refine Below.setCell ?_ (by simp [more_size]; try omega) _) | (with_reducible refine below_more ?_ _ (by simp [more_size]; try omega))))⟩ ?_
  rintro W1 ⟨hS, hb, hB⟩
  have cm := fun y => (more_cell W1 y 3 hS.box.lt).trans (hS.box.cell 3)
  have LN1 := Lib.hid (fun y => LN.out _ (hS.below (more_below W1 y)))
  have go2 : Hid (∀ y, SM (more W1 y) F p sl cap S M pf a [] D mx nx wr ∧ Blk (more W1 y) w.heap.size #[.int .i64 id, .int .i64 ver, .slice A l.length ca] 63 ∧ Below w.heap.size w (more W1 y)) := Lib.hid (fun y => ⟨hS.below (more_below W1 y), hb.more y, hB.trans ((more_below W1 y).mono hB.size)⟩)
  clear hS hb hB LN h
  refine wp_region_more (by kernel_rfl) (by kernel_rfl) ?_
  repeat (go_big_quiet_step (((with_reducible exact (LN1.out _).at_))))
  refine wpQuiet_nil ?_
  rintro _ ⟨y, rfl⟩
  obtain ⟨hS, hb, hB⟩ := go2.out y
  clear cm LN1 go2
  generalize more W1 y = W2 at *
  have hnF : ¬ F w.heap.size := fun c => by have := hnb.out _ c; omega
  have cp2 : W2.cell? ⟨p, 2, none⟩ = some (.pointer (some ⟨pf, 0, none⟩)) := hS.box.cell 2
  have cp0 : W2.cell? ⟨p, 0, none⟩ = some (.slice sl S.length cap) := hS.box.cell 0
  have fp0 := hS.box.free 0
  have TK := Lib.hid (free_take_none W2 pf a hS.free)
  have own := Lib.hid hS.row
  have hpl := hS.box.lt
  have KB := Lib.hid (show ∀ W0 w3, Below W2.heap.size W2 W0 → W0.grownBy w3 (Value.slice sl S.length cap).ownBlock → w3.cell? ⟨p, 0, none⟩ = some (.slice sl S.length cap) ∧ w3.frozen? ⟨p, 0, none⟩ = false from fun W0 w3 h1 h2 => by
    have e : w3.heap[p]? = W2.heap[p]? := (h2.block p (Nat.lt_of_lt_of_le hpl h1.size) (Ne.symm hS.sp)).trans (h1.block p hpl)
    exact ⟨(World.cell?_of_block (w := W2) (a := ⟨p, 0, none⟩) e).trans cp0, (World.frozen?_of_block (w := W2) (a := ⟨p, 0, none⟩) e).trans fp0⟩)
  go_wp2_with fail
  refine TK.out.mono ?_; rintro e w' ⟨rfl, rfl⟩
  clear TK fp0
  go_wp2_with (first
    | (at_builtin; refine wpList_append_own_at _ rfl _ _ 105 rfl 0 63 i0 _ 3 40 Try.underlying105 hi hz0 hz1 hz2 rfl (by decide) (.slice sl S.length cap) S.length (rowC sltC S) rfl (own_below own.out (by repeat (first | (with_reducible exact Below.refl _ _) | (with_reducible refine Below.drew ?_) | (with_reducible refine Below.alloc ?_ (by simp [more_size]; try omega) _) | (with_reducible refine Below.setCell ?_ (by simp [more_size]; try omega) _) | (with_reducible refine below_more ?_ _ (by simp [more_size]; try omega))))) _ 1 1 (sltC z9) rfl rfl (cells_at _ (sltC z9) _ (by simp)) (sltC_one z9) (by unfold maxLen; omega) (by omega) (by simp) ?_; intro v3 w3 own3 grow3 _ hat3; obtain ⟨g3, cap3, rfl⟩ := own_some9 own3 (by omega); obtain ⟨kc, kf⟩ := KB.out _ w3 (by repeat (first | (with_reducible exact Below.refl _ _) | (with_reducible refine Below.drew ?_) | (with_reducible refine Below.alloc ?_ (by simp [more_size]; try omega) _) | (with_reducible refine Below.setCell ?_ (by simp [more_size]; try omega) _) | (with_reducible refine below_more ?_ _ (by simp [more_size]; try omega)))) grow3)
    | fail)
  obtain ⟨hS3, HC3, HG3⟩ := hS.slotted (W0 := W2.alloc (.cells #[.int .i64 0, .int .i64 0, .slice none 0 0] 63)) (s := z9) (by repeat (first | (with_reducible exact Below.refl _ _) | (with_reducible refine Below.drew ?_) | (with_reducible refine Below.alloc ?_ (by simp [more_size]; try omega) _) | (with_reducible refine Below.setCell ?_ (by simp [more_size]; try omega) _) | (with_reducible refine below_more ?_ _ (by simp [more_size]; try omega)))) grow3 (by
    rcases hat3 with q | q
    · exact .inl (by simpa [Value.ownBlock] using q.symm)
    · refine .inr ?_
      simp [Value.ownBlock] at q
      omega) own3 ⟨rfl, rfl, rfl⟩
  obtain ⟨F3, hF3⟩ : ∃ F3 : Nat → Prop, F3 = fun k => F k ∨ k = g3 := ⟨_, rfl⟩
  rw [← hF3] at hS3 HG3
  clear hF3 KB own own3 grow3 hat3 kc kf cp0
  generalize w3.setCell ⟨p, 0, none⟩ (.slice (some ⟨g3, 0, none⟩) (S.length + 1) cap3) = W3 at *
  have hb3 := hb.chg HC3 hnF
  obtain ⟨kn, hkn⟩ : ∃ kn : Nat, S.length = kn := ⟨_, rfl⟩
  have hl3 : (S ++ [z9]).length = kn + 1 := by simp [hkn]
  have wfk : (Lit.int .i64 (kn : Int)).wf = true := WalkArith.wf_i64 (by omega)
  obtain ⟨W4, hrun, hown4, hg4⟩ := (hS3.mp.drew).update keyI Try.underlying136 (by unfold maxLen; omega) (keyOf_int_mk Try.underlying2 wfi) (plainElem_int Try.underlying3 wfk)
  obtain ⟨hS4, hC4⟩ := (hS3.below (show Below W3.heap.size W3 W3.drew from (by repeat (first | (with_reducible exact Below.refl _ _) | (with_reducible refine Below.drew ?_) | (with_reducible refine Below.alloc ?_ (by simp [more_size]; try omega) _) | (with_reducible refine Below.setCell ?_ (by simp [more_size]; try omega) _) | (with_reducible refine below_more ?_ _ (by simp [more_size]; try omega)))))).mapped hg4 (size_read hown4)
  have hCa : Chg F W2 W4 := HC3.trans HG3 ((Chg.drew).then hC4)
  have cp1 : W3.cell? ⟨p, 1, none⟩ = some (.map (some M)) := hS3.box.cell 1
  have cb0 : W3.cell? ⟨w.heap.size, 0, none⟩ = some (.int .i64 id) := hb3.cell 0
  have hb4 := hb.chg hCa hnF
  have d0 : W4.cell? ⟨w.heap.size, 0, none⟩ = some (.int .i64 id) := hb4.cell 0
  have d1 : W4.cell? ⟨w.heap.size, 1, none⟩ = some (.int .i64 ver) := hb4.cell 1
  have d2 : W4.cell? ⟨w.heap.size, 2, none⟩ = some (.slice A l.length ca) := hb4.cell 2
  have ha4 : ValsIn W4 A l := (ha.below hB).chg hCa hAF
  have WR := Lib.hid (write_mem hS4 (i := kn) (by simp; omega) id ver A ca l hl hA ha4 hw)
  have hCa' := Lib.hid (show Chg F w W4 from (Chg.of_below hB).then hCa)
  have HGh := Lib.hid (show Grew w F F3 from ⟨HG3.1, fun k hk => (HG3.2 k hk).imp (fun h => h) (fun q => Nat.le_trans hB.size q)⟩)
  clear hb4 ha4 hS4 hC4 hown4 hg4 hCa hb3 HC3 HG3 hS3
  go_wp2_with fail
  go_region
  go_wp2_with fail
  refine WR.out.mono ?_
  rintro e W5 ⟨rfl, F5, A5, ca5, k5, c5, g5⟩
  have fin := Lib.hid (show Chg F w W5 ∧ Grew w F F5 from ⟨hCa'.out.trans HGh.out c5, HGh.out.trans hCa'.out.size g5⟩)
  replace k5 := Lib.hid k5
  clear c5 g5
  go_wp2
  go_ret
  exact ⟨rfl, _, _, _, _, _, by have := k5.out; rw [← hkn] at this; simpa using this, fin.out⟩
end Go.Proofs.Ytilpgojkbgbinaa

