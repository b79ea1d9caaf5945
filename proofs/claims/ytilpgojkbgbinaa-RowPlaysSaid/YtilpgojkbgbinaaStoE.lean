/- Package row: Replace, Erase, Put, over what a store holds. -/
import Derived.Test.YtilpgojkbgbinaaStoN
set_option maxRecDepth 100000
set_option linter.unusedVariables false
set_option linter.unusedSimpArgs false
namespace Go.Proofs.Ytilpgojkbgbinaa
open Go.RowKit
open Go.Maps (has size Keyed int_keyed keyOf_int_mk)
attribute [local go_sem] run_frombits run_tobits more_more more_drew more_drewN more_size more_cell more_frozen run_store_float lt_c1 le_c1 lt_s1 le_s1 lt_c2 le_c2 lt_s2 le_s2 lt_c3 le_c3 lt_s3 le_s3 lt_c4 le_c4 lt_s4 le_s4 lt_c5 le_c5 lt_s5 le_s5 lt_c6 le_c6 lt_s6 le_s6 lt_c7 le_c7 lt_s7 le_s7 lt_c8 le_c8 lt_s8 le_s8 lt_c9 le_c9 lt_s9 le_s9 lt_c10 le_c10 lt_s10 le_s10 lt_c11 le_c11 lt_s11 le_s11 lt_c12 le_c12 lt_s12 le_s12 le_c0
section
variable {w w' : World} {F F' G : Nat → Prop} {p : Nat} {g : Int → Option Row9} {n : Nat} {mx nx wr : Int}
set_option maxHeartbeats 1000000 in
theorem replace_no (h : StoreAt w p F g n mx nx wr) {id : Int} (hid : (Lit.int .i64 id).wf = true) (v : Value) (hg : g id = none) :
    Calls Try.prog 54 #[.pointer (some ⟨p, 0, none⟩), .int .i64 id, v] w fun e w' => e = .returned (.int .i64 71) ∧ w = w' := by
  obtain ⟨sl, cap, S, M, pf, a, m, D, h1, h2⟩ := h
  have hno := h2.off id hg
  have c1 : w.cell? ⟨p, 1, none⟩ = some (.map (some M)) := h1.box.cell 1
  have own := Lib.hid h1.mp
  clear h1 h2
  go_enter Try.func54, Try.ntmps54
  go_wp2_with (first | (at_lookup; refine wpList_lookup_own_ok_int _ rfl _ _ 136 rfl 2 3 .i64 keyI Try.underlying136 Try.underlying3 (zeroI _) M (size D) D rfl own.out _ (idL id) rfl (keyOf_int_mk Try.underlying2 hid) ?_; intro c hat hwc; rw [hno]) | fail)
  go_ret
  exact ⟨rfl, rfl⟩
set_option maxHeartbeats 2000000 in
theorem replace_ok (h : StoreAt w p F g n mx nx wr) {id : Int} (hid : (Lit.int .i64 id).wf = true) (A : Option Addr) (ca : Nat) (l : List Val) (hl : l.length ≤ 1000) (hA : A = none → ca = 0 ∧ l.length = 0) (ha : ValsIn w A l) (hw : -9223372036854775808 ≤ wr + 1 ∧ wr + 1 < 9223372036854775808) {r : Row9} (hg : g id = some r) :
    Calls Try.prog 54 #[.pointer (some ⟨p, 0, none⟩), .int .i64 id, .slice A l.length ca] w fun e w' => e = .returned (.int .i64 0) ∧ ∃ F', StoreAt w' p F' (upd g id (some (wrap64 (r.1 + 1), l))) n mx nx (wr + 1) ∧ Chg F w w' ∧ Grew w F F' := by
  obtain ⟨sl, cap, S, M, pf, a, m, D, h1, h2⟩ := h
  obtain ⟨hyes, i, s, hi, hs, e1, e2, e3, him⟩ := h2.on id r hg
  obtain ⟨hiS, hs2⟩ := List.getElem?_eq_some_iff.1 hs
  have WR := Lib.hid (fun ver => write_mem h1 hiS id ver A ca l hl hA ha hw)
  have RL := Lib.hid (fun ver A' ca' => h2.replace (ver := ver) (A := A') (ca := ca') (l := l) hg hi hs e1 him)
  obtain ⟨q, rfl, hq, hqf, k0, k1, k2⟩ := h1.slots hiS
  rw [hs2] at k1
  rw [e2] at k1
  have hi' : (i : Int) < (S.length : Int) := by omega
  have c0 : w.cell? ⟨p, 0, none⟩ = some (.slice (some ⟨q, 0, none⟩) S.length cap) := h1.box.cell 0
  have c1 : w.cell? ⟨p, 1, none⟩ = some (.map (some M)) := h1.box.cell 1
  have own := Lib.hid h1.mp
  replace hi := Lib.hid hi
  clear h1 h2 hs hs2 e1 e2 e3 hqf k0 k2 him hw
  generalize r.1 = rv at *
  go_enter Try.func54, Try.ntmps54
  go_wp2_with (first | (at_lookup; refine wpList_lookup_own_ok_int _ rfl _ _ 136 rfl 2 3 .i64 keyI Try.underlying136 Try.underlying3 (zeroI _) M (size D) D rfl own.out _ (idL id) rfl (keyOf_int_mk Try.underlying2 hid) ?_; intro c hat hwc; rw [hyes]; obtain rfl : c = (i : Int) := by (have e := hat.symm.trans hi.out; injection e with e; injection e)) | fail)
  refine (WR.out _).mono ?_
  rintro e w1 ⟨rfl, F1, A1, ca1, hS, hC, hG⟩
  have fin := Lib.hid (show StoreAt w1 p F1 (upd g id (some (wrap64 (rv + 1), l))) n mx nx (wr + 1) from ⟨_, _, _, _, _, _, _, _, hS, RL.out _ _ _⟩)
  replace hC := Lib.hid hC
  replace hG := Lib.hid hG
  clear hS WR RL
  go_wp2
  go_ret
  exact ⟨rfl, _, fin.out, hC.out, hG.out⟩
set_option maxHeartbeats 1000000 in
theorem erase_no (h : StoreAt w p F g n mx nx wr) {id : Int} (hid : (Lit.int .i64 id).wf = true) (hg : g id = none) :
    Calls Try.prog 37 #[.pointer (some ⟨p, 0, none⟩), .int .i64 id] w fun e w' => e = .returned (.int .i64 71) ∧ w = w' := by
  obtain ⟨sl, cap, S, M, pf, a, m, D, h1, h2⟩ := h
  have hno := h2.off id hg
  have c1 : w.cell? ⟨p, 1, none⟩ = some (.map (some M)) := h1.box.cell 1
  have own := Lib.hid h1.mp
  clear h1 h2
  go_enter Try.func37, Try.ntmps37
  go_wp2_with (first | (at_lookup; refine wpList_lookup_own_ok_int _ rfl _ _ 136 rfl 2 3 .i64 keyI Try.underlying136 Try.underlying3 (zeroI _) M (size D) D rfl own.out _ (idL id) rfl (keyOf_int_mk Try.underlying2 hid) ?_; intro c hat hwc; rw [hno]) | fail)
  go_ret
  exact ⟨rfl, rfl⟩
set_option maxHeartbeats 2000000 in
theorem erase_ok (h : StoreAt w p F g n mx nx wr) {id : Int} (hid : (Lit.int .i64 id).wf = true) (hw : -9223372036854775808 ≤ wr + 1 ∧ wr + 1 < 9223372036854775808) {r : Row9} (hg : g id = some r) :
    Calls Try.prog 37 #[.pointer (some ⟨p, 0, none⟩), .int .i64 id] w fun e w' => e = .returned (.int .i64 0) ∧ ∃ F', StoreAt w' p F' (upd g id none) (n - 1) mx nx (wr + 1) ∧ 0 < n ∧ Chg F w w' ∧ Grew w F F' := by
  obtain ⟨sl, cap, S, M, pf, a, m, D, h1, h2⟩ := h
  obtain ⟨hyes, i, s, hi, hs, e1, e2, e3, him⟩ := h2.on id r hg
  obtain ⟨hiS, hs2⟩ := List.getElem?_eq_some_iff.1 hs
  have WR := Lib.hid (show Calls Try.prog 85 #[.pointer (some ⟨p, 0, none⟩), .int .i64 i, .agg #[.int .i64 0, .int .i64 0, .slice none 0 0]] w _ from write_mem h1 hiS 0 0 none 0 [] (by simp) (fun _ => ⟨rfl, rfl⟩) (fun j hj => by simp at hj) hw)
  have RL := Lib.hid (fun A' ca' => h2.erase (A := A') (ca := ca') hg hi hs e1 him)
  have hml : m.length + 1 ≤ 1000000 := by have := h2.le; have := h2.mx2; have := h2.cnt; omega
  have c1 : w.cell? ⟨p, 1, none⟩ = some (.map (some M)) := h1.box.cell 1
  have own := Lib.hid h1.mp
  replace hi := Lib.hid hi
  clear h1 h2 hs hs2 e1 e2 e3 him hw
  go_enter Try.func37, Try.ntmps37
  go_wp2_with (first | (at_lookup; refine wpList_lookup_own_ok_int _ rfl _ _ 136 rfl 2 3 .i64 keyI Try.underlying136 Try.underlying3 (zeroI _) M (size D) D rfl own.out _ (idL id) rfl (keyOf_int_mk Try.underlying2 hid) ?_; intro c hat hwc; rw [hyes]; obtain rfl : c = (i : Int) := by (have e := hat.symm.trans hi.out; injection e with e; injection e)) | fail)
  refine WR.out.mono ?_
  rintro e w1 ⟨rfl, F1, A1, ca1, hS, hC, hG⟩
  have d1 : w1.cell? ⟨p, 1, none⟩ = some (.map (some M)) := hS.box.cell 1
  go_wp2_with (first | (at_delete; refine wpList_delete_own _ rfl _ _ 136 2 rfl 3 keyI Try.underlying136 _ M (size D) D rfl hS.mp _ (idL id) rfl (keyOf_int_mk Try.underlying2 hid) ?_; intro w2 own2 turn2; obtain ⟨hS2, hC2⟩ := hS.mapped turn2.grown (size_read own2); have z2 : w2.cell? ⟨p, 2, none⟩ = some (.pointer (some ⟨pf, 0, none⟩)) := hS2.box.cell 2) | fail)
  refine (free_put w2 pf a m i hml hS2.free).mono ?_
  rintro e w3 ⟨rfl, a3, hf3, hF3, hK3⟩
  obtain ⟨hS3, hC3, hG3⟩ := hS2.freed hK3 hF3 hf3
  have fin := Lib.hid (show StoreAt w3 p _ (upd g id none) (n - 1) mx nx (wr + 1) ∧ 0 < n ∧ Chg F w w3 ∧ Grew w F _ from ⟨⟨_, _, _, _, _, _, _, _, hS3, (RL.out _ _).1⟩, (RL.out A1 ca1).2, (hC.trans hG hC2).trans hG hC3, hG.trans (Nat.le_trans hC.size hC2.size) hG3⟩)
  clear hS hC hG d1 own2 turn2 hS2 hC2 z2 hf3 hF3 hK3 hS3 hC3 hG3 WR RL
  go_wp2
  go_ret
  exact ⟨rfl, _, fin.out⟩
end
end Go.Proofs.Ytilpgojkbgbinaa
