/- rialtolaw10: what is known of every index. -/
import Derived.Test.YtijegkiapbmekaaHnew
set_option maxRecDepth 100000
set_option linter.unusedVariables false
set_option linter.unusedSimpArgs false
namespace Go.Proofs.Ytijegkiapbmekaa
open Go.RowKit
open Go.Maps (has size Keyed int_keyed keyOf_int_mk)
attribute [local go_sem] run_frombits run_tobits more_more more_drew more_drewN more_size more_cell more_frozen run_store_float lt_c1 le_c1 lt_s1 le_s1 lt_c2 le_c2 lt_s2 le_s2 lt_c3 le_c3 lt_s3 le_s3 lt_c4 le_c4 lt_s4 le_s4 lt_c5 le_c5 lt_s5 le_s5 lt_c6 le_c6 lt_s6 le_s6 lt_c7 le_c7 lt_s7 le_s7 lt_c8 le_c8 lt_s8 le_s8 lt_c9 le_c9 lt_s9 le_s9 lt_c10 le_c10 lt_s10 le_s10 lt_c11 le_c11 lt_s11 le_s11 lt_c12 le_c12 lt_s12 le_s12 le_c0
def numL (v : Int) : List Val := [⟨1, v, ⟨#[]⟩, 0⟩]
abbrev numO (v : Int) : Obj := .cells #[.int .i64 1, .int .i64 v, .string ⟨#[]⟩, .float .f64 0] 32
theorem num10_any (v : Int) (w : World) : Calls Try.prog 16 #[.int .i64 v] w fun e w' => e = .returned (.slice (some ⟨w.heap.size, 0, none⟩) 1 1) ∧ w' = w.alloc (numO v) := by
  go_enter Try.func16, Try.ntmps16
  go_wp2
  go_ret
  exact ⟨rfl, rfl⟩
theorem numL_ok (v : Int) (h : -9223372036854775808 ≤ v ∧ v < 9223372036854775808) : allOk (numL v) := fun a ha => by
  simp [numL] at ha; subst ha
  exact ⟨by show (0 : Nat) < _; decide, by show -9223372036854775808 ≤ (1 : Int) ∧ (1 : Int) < 9223372036854775808; decide, h, by show (ByteArray.size ⟨#[]⟩) ≤ _; decide⟩
theorem numIn10 (v : Int) (W : World) : ValsIn (W.alloc (numO v)) (some ⟨W.heap.size, 0, none⟩) (numL v) := valsIn_one ⟨1, v, ⟨#[]⟩, 0⟩ rfl
set_option maxHeartbeats 1000000 in
theorem ids_same (A B : Option Addr) (ca cb : Nat) (l : List Int) (w : World) (hl : l.length ≤ 1000) (ha : RowIn intC 1 w A l) (hb : RowIn intC 1 w B l) :
    Gives Try.prog 17 #[.slice A l.length ca, .slice B l.length cb] w (.bool true) := by
  have HA := Lib.hid (show ∀ j (hj : j < l.length), ∃ b o, A = some ⟨b, o, none⟩ ∧ b < w.heap.size ∧ w.cell? ⟨b, o + j, none⟩ = some (.int .i64 l[j]) from fun j hj => by
    obtain ⟨b, o, e, hl, hc⟩ := ha j hj
    exact ⟨b, o, e, hl, by have := hc j hj 0 _ rfl; simpa using this⟩)
  have HB := Lib.hid (show ∀ j (hj : j < l.length), ∃ b o, B = some ⟨b, o, none⟩ ∧ b < w.heap.size ∧ w.cell? ⟨b, o + j, none⟩ = some (.int .i64 l[j]) from fun j hj => by
    obtain ⟨b, o, e, hl, hc⟩ := hb j hj
    exact ⟨b, o, e, hl, by have := hc j hj 0 _ rfl; simpa using this⟩)
  clear ha hb
  go_enter Try.func17, Try.ntmps17
  go_wp2
  go_loopw [5] (fun t wr => ∃ (j : Nat) (x : Ext), t = .int .i64 j ∧ j ≤ l.length ∧ wr = more w x) (fun t _ => l.length - (intOf t).toNat)
  case atStart => exact ⟨0, ⟨#[], w.drawn⟩, rfl, by omega, (more_self w).symm⟩
  case round =>
    obtain ⟨j, x, rfl, hj, rfl⟩ := hrel
    by_cases hlt : j < l.length
    · have hlt' : (j : Int) < (l.length : Int) := by omega
      obtain ⟨b, o, rfl, l1, a0⟩ := HA.out j hlt
      obtain ⟨b2, o2, rfl, l2, d0⟩ := HB.out j hlt
      replace a0 := fun y => (more_cell w y _ l1).trans a0
      replace d0 := fun y => (more_cell w y _ l2).trans d0
      generalize l[j] = y at *
      go_wp2_with fail
      refine wp_region_more2 (by kernel_rfl) (by kernel_rfl) ?_
      repeat (go_big_quiet_step (fail))
      refine wpQuiet_nil ?_
      rintro _ ⟨z, rfl⟩
      go_wp2
      exact ⟨⟨j + 1, _, by go_num, by omega, rfl⟩, by simp [intOf]; omega⟩
    · have hlt' : ((j : Int) < (l.length : Int)) = False := eq_false (by omega)
      go_wp2
      go_ret
      exact ⟨rfl, _, rfl⟩
/-- an index that a statement made behind w0 -/
def HI (w0 w : World) (p : Nat) (u : Bool) (n : Int) (C : List Chn) : Prop := ∃ F M D, HM w F p M D u n C ∧ Below w0.heap.size w0 w ∧ ∀ k, F k → w0.heap.size ≤ k
section
variable {w0 w w' : World} {p : Nat} {u : Bool} {n : Int} {C : List Chn} {key : List Val}
theorem HI.below (h : HI w0 w p u n C) (hb : Below w.heap.size w w') : HI w0 w' p u n C := by
  obtain ⟨F, M, D, h1, h2, h3⟩ := h
  exact ⟨F, M, D, h1.below hb, h2.trans (hb.mono h2.size), h3⟩
theorem HI.bel (h : HI w0 w p u n C) : Below w0.heap.size w0 w := by obtain ⟨F, M, D, h1, h2, h3⟩ := h; exact h2
theorem hi_new (u : Bool) (hb : Below w0.heap.size w0 w) : Calls Try.prog 8 #[.bool u] w fun e w' => ∃ p, e = .returned (.pointer (some ⟨p, 0, none⟩)) ∧ HI w0 w' p u 0 [] :=
  (hnew_any u w).mono fun e w' ⟨p, M, F, h1, h2, h3, h4⟩ => ⟨p, h1, F, M, _, h2, hb.trans (h3.mono hb.size), fun k hk => Nat.le_trans hb.size (h4 k hk)⟩
theorem hi_ins (h : HI w0 w p u n C) (A : Option Addr) (ca : Nat) (hok : allOk key) (lk : key.length ≤ 1000) (hA : A = none → ca = 0 ∧ key.length = 0) (ha : ValsIn w A key) (hno : ∀ c ∈ C, c.key ≠ key) (id : Int) (hn : 0 ≤ n ∧ n ≤ 1000) (hCl : C.length ≤ 1000) :
    Calls Try.prog 9 #[.pointer (some ⟨p, 0, none⟩), .slice A key.length ca, .int .i64 id] w fun e w' => e = .returned (.int .i64 0) ∧ ∃ c, c.key = key ∧ c.ids = [id] ∧ HI w0 w' p u (n + 1) (C ++ [c]) := by
  obtain ⟨F, M, D, h1, h2, h3⟩ := h
  refine (hins_new h1 A ca hok lk hA ha hno id hn hCl).mono ?_
  rintro e w' ⟨rfl, c, F', D', q1, q2, q3, q4, q5⟩
  exact ⟨rfl, c, q1, q2, F', M, D', q3, h2.trans (q4.below h3 h2.size), fun k hk => (q5.2 k hk).elim (h3 k) (fun q => Nat.le_trans h2.size q)⟩
end
set_option maxHeartbeats 4000000 in
theorem known10 (w : World) : Gives Try.prog 7 #[] w (.bool true) := by
  go_enter Try.func7, Try.ntmps7
  go_wp2_with fail
  refine (hi_new true (Below.refl w.heap.size w)).mono ?_
  rintro e w1 ⟨p, rfl, h0⟩
  go_wp2_with fail
  refine (num10_any _ _).mono ?_; rintro e w' ⟨rfl, rfl⟩
  have IN := Lib.hid (hi_ins (h0.below (show Below w1.heap.size w1 (w1.alloc (numO 5)) from (by repeat (first | (with_reducible exact Below.refl _ _) | (with_reducible refine Below.drew ?_) | (with_reducible refine Below.alloc ?_ (by simp [more_size]; try omega) _) | (with_reducible refine Below.setCell ?_ (by simp [more_size]; try omega) _) | (with_reducible refine below_more ?_ _ (by simp [more_size]; try omega)))))) (some ⟨w1.heap.size, 0, none⟩) 1 (numL_ok 5 (by decide)) (by simp [numL]) (fun e => by cases e) (numIn10 5 w1) (fun c hc => by cases hc) 1 (by decide) (by decide))
  clear h0
  go_wp2_with fail
  refine IN.out.mono ?_
  rintro e w2 ⟨rfl, c, hck, hci, h2⟩
  rw [List.nil_append] at h2
  clear IN
  have hcm : c ∈ [c] := by simp
  have hcl : c.ids.length ≤ 1000 := by rw [hci]; decide
  have STEP := Lib.hid (show ∀ (W : World), HI w W p true (0 + 1) [c] → Gives Try.prog 9 #[.pointer (some ⟨p, 0, none⟩), .slice (some ⟨W.heap.size, 0, none⟩) 1 1, .int .i64 2] (W.alloc (numO 5)) (.int .i64 80) ∧ Gives Try.prog 9 #[.pointer (some ⟨p, 0, none⟩), .slice (some ⟨W.heap.size, 0, none⟩) 1 1, .int .i64 1] (W.alloc (numO 5)) (.int .i64 72) ∧ (Calls Try.prog 18 #[.pointer (some ⟨p, 0, none⟩), .slice (some ⟨W.heap.size, 0, none⟩) 1 1, .int .i64 2] (W.alloc (numO 5)) fun e w' => e = .returned (.int .i64 71) ∧ Below (W.alloc (numO 5)).heap.size (W.alloc (numO 5)) w') ∧ (Calls Try.prog 11 #[.pointer (some ⟨p, 0, none⟩), .slice (some ⟨W.heap.size, 0, none⟩) 1 1] (W.alloc (numO 5)) fun e w' => ∃ v, e = .returned v ∧ w'.ownsRow (W.alloc (numO 5)).heap.size 2 1 v c.ids.length (c.ids.map idI) ∧ Below (W.alloc (numO 5)).heap.size (W.alloc (numO 5)) w') from fun W hW => by
    obtain ⟨F, M, D, h1, _, _⟩ := hW.below (show Below W.heap.size W (W.alloc (numO 5)) from (by repeat (first | (with_reducible exact Below.refl _ _) | (with_reducible refine Below.drew ?_) | (with_reducible refine Below.alloc ?_ (by simp [more_size]; try omega) _) | (with_reducible refine Below.setCell ?_ (by simp [more_size]; try omega) _) | (with_reducible refine below_more ?_ _ (by simp [more_size]; try omega)))))
    have ok5 := numL_ok 5 (by decide)
    have hi := numIn10 5 W
    exact ⟨hins_dup h1 (some ⟨W.heap.size, 0, none⟩) 1 ok5 (by simp [numL]) hi hcm hck hcl 2 (by rw [hci]; decide), hins_there h1 (some ⟨W.heap.size, 0, none⟩) 1 ok5 (by simp [numL]) hi hcm hck hcl 1 (by rw [hci]; decide), hera_no h1 (some ⟨W.heap.size, 0, none⟩) 1 ok5 (by simp [numL]) hi hcm hck hcl 2 (by rw [hci]; decide), hfind_yes h1 (some ⟨W.heap.size, 0, none⟩) 1 ok5 (by simp [numL]) hi hcm hck hcl⟩)
  have BA := Lib.hid (show ∀ (W : World), HI w W p true (0 + 1) [c] → HI w (W.alloc (numO 5)) p true (0 + 1) [c] from fun W h => h.below (by repeat (first | (with_reducible exact Below.refl _ _) | (with_reducible refine Below.drew ?_) | (with_reducible refine Below.alloc ?_ (by simp [more_size]; try omega) _) | (with_reducible refine Below.setCell ?_ (by simp [more_size]; try omega) _) | (with_reducible refine below_more ?_ _ (by simp [more_size]; try omega)))))
  have BM := Lib.hid (show ∀ (W : World) x, HI w W p true (0 + 1) [c] → HI w (more W x) p true (0 + 1) [c] from fun W x h => h.below (more_below W x))
  replace h2 := Lib.hid h2
  clear hcm hcl hck
  replace hci := Lib.hid hci
  go_wp2_with fail
  refine (num10_any _ _).mono ?_; rintro e w' ⟨rfl, rfl⟩
  go_wp2_with fail
  refine (STEP.out _ h2.out).1.mono' ?_; intro x1
  have h3 := Lib.hid (BM.out _ x1 (BA.out _ h2.out))
  generalize more (w2.alloc (numO 5)) x1 = w3 at *
  clear h2
  go_wp2_with fail
  refine (num10_any _ _).mono ?_; rintro e w' ⟨rfl, rfl⟩
  go_wp2_with fail
  refine (STEP.out _ h3.out).2.1.mono' ?_; intro x2
  have h4 := Lib.hid (BM.out _ x2 (BA.out _ h3.out))
  generalize more (w3.alloc (numO 5)) x2 = w4 at *
  clear h3
  go_wp2_with fail
  refine (num10_any _ _).mono ?_; rintro e w' ⟨rfl, rfl⟩
  go_wp2_with fail
  refine (STEP.out _ h4.out).2.2.1.mono ?_
  rintro e w5 ⟨rfl, hB5⟩
  have h5 := Lib.hid ((BA.out _ h4.out).below hB5)
  clear h4 hB5
  go_wp2_with fail
  refine (num10_any _ _).mono ?_; rintro e w' ⟨rfl, rfl⟩
  go_wp2_with fail
  refine (STEP.out _ h5.out).2.2.2.mono ?_
  rintro e w6 ⟨v, rfl, own6, hB6⟩
  have h6 := Lib.hid ((BA.out _ h5.out).below hB6)
  rw [hci.out] at own6
  obtain ⟨vA, vc, rfl⟩ := own_form9 own6
  have hb7 : Below w6.heap.size w6 (w6.alloc (.cells #[.int .i64 1] 2)) := (by repeat (first | (with_reducible exact Below.refl _ _) | (with_reducible refine Below.drew ?_) | (with_reducible refine Below.alloc ?_ (by simp [more_size]; try omega) _) | (with_reducible refine Below.setCell ?_ (by simp [more_size]; try omega) _) | (with_reducible refine below_more ?_ _ (by simp [more_size]; try omega))))
  have rA : RowIn intC 1 (w6.alloc (.cells #[.int .i64 1] 2)) vA [(1 : Int)] := by
    have e1 : w6.ownsRow _ 2 1 (.slice vA 1 vc) [(1 : Int)].length (rowC intC [1]) := own6
    obtain ⟨A9, c9, e9, _, _, _, q9⟩ := rowIn_own (c := intC) (s := 1) (fun _ => rfl) rfl e1
    injection e9 with e9
    subst e9
    exact q9.below hb7
  have rB : RowIn intC 1 (w6.alloc (.cells #[.int .i64 1] 2)) (some ⟨w6.heap.size, 0, none⟩) [(1 : Int)] := fun j hj => ⟨_, 0, rfl, by simp, fun i hi t u hu => by
    have : i = 0 := by simp at hi; omega
    subst this
    match t, hu with
    | 0, hu => simp [intC] at hu; subst hu; exact (Blk.new w6 #[.int .i64 1] 2 rfl).cell 0
    | t + 1, hu => simp [intC] at hu⟩
  have ID := Lib.hid (ids_same vA (some ⟨w6.heap.size, 0, none⟩) vc 1 [1] _ (by simp) rA rB)
  have hf := Lib.hid ((h6.out.below hb7).bel)
  clear own6 hB6 h5 h6 hb7 rA rB STEP BA BM
  go_wp2_with fail
  refine ID.out.mono' ?_; intro z
  have hf2 := Lib.hid (hf.out.trans ((more_below _ z).mono hf.out.size))
  clear hf
  go_wp2
  go_ret
  exact ⟨rfl, more_of_below hf2.out⟩
end Go.Proofs.Ytijegkiapbmekaa
