/- The document's rows: Erase. -/
import Derived.Test.YtilpgojkbgbinaaRef9S
set_option maxRecDepth 100000
set_option linter.unusedVariables false
set_option linter.unusedSimpArgs false
namespace Go.Proofs.Ytilpgojkbgbinaa
open Go.RowKit
open Go.Maps (has size Keyed int_keyed keyOf_int_mk)
attribute [local go_sem] run_frombits run_tobits more_more more_drew more_drewN more_size more_cell more_frozen run_store_float lt_c1 le_c1 lt_s1 le_s1 lt_c2 le_c2 lt_s2 le_s2 lt_c3 le_c3 lt_s3 le_s3 lt_c4 le_c4 lt_s4 le_s4 lt_c5 le_c5 lt_s5 le_s5 lt_c6 le_c6 lt_s6 le_s6 lt_c7 le_c7 lt_s7 le_s7 lt_c8 le_c8 lt_s8 le_s8 lt_c9 le_c9 lt_s9 le_s9 lt_c10 le_c10 lt_s10 le_s10 lt_c11 le_c11 lt_s11 le_s11 lt_c12 le_c12 lt_s12 le_s12 le_c0
variable {w w' : World} {pr : Nat} {G G' Y : Nat → Prop} {A : Option Addr} {cap : Nat} {L : List Slt} {mx nx : Int}
set_option maxHeartbeats 1000000 in
theorem ref_erase_no (h : RM w pr G A cap L mx nx) (id : Int) (hno : ∀ k, AtK L id k → okAt L id k = false) :
    Calls Try.prog 65 #[.pointer (some ⟨pr, 0, none⟩), .int .i64 id] w fun e w' => e = .returned (.int .i64 71) ∧ Below w.heap.size w w' := by
  have AT := Lib.hid (at_any9 h id)
  clear h
  go_enter Try.func65, Try.ntmps65
  go_wp2_with fail
  refine AT.out.mono ?_
  rintro e w1 ⟨k, rfl, hk, x, rfl⟩
  rw [hno k hk]
  go_wp2
  go_ret
  exact ⟨rfl, (by repeat (first | (with_reducible exact Below.refl _ _) | (with_reducible refine Below.drew ?_) | (with_reducible refine Below.alloc ?_ (by simp [more_size]; try omega) _) | (with_reducible refine Below.setCell ?_ (by simp [more_size]; try omega) _) | (with_reducible refine below_more ?_ _ (by simp [more_size]; try omega))))⟩
set_option maxHeartbeats 1000000 in
theorem ref_replace_no (h : RM w pr G A cap L mx nx) (id : Int) (v : Value) (hno : ∀ k, AtK L id k → okAt L id k = false) :
    Calls Try.prog 64 #[.pointer (some ⟨pr, 0, none⟩), .int .i64 id, v] w fun e w' => e = .returned (.int .i64 71) ∧ Below w.heap.size w w' := by
  have AT := Lib.hid (at_any9 h id)
  clear h
  go_enter Try.func64, Try.ntmps64
  go_wp2_with fail
  refine AT.out.mono ?_
  rintro e w1 ⟨k, rfl, hk, x, rfl⟩
  rw [hno k hk]
  go_wp2
  go_ret
  exact ⟨rfl, (by repeat (first | (with_reducible exact Below.refl _ _) | (with_reducible refine Below.drew ?_) | (with_reducible refine Below.alloc ?_ (by simp [more_size]; try omega) _) | (with_reducible refine Below.setCell ?_ (by simp [more_size]; try omega) _) | (with_reducible refine below_more ?_ _ (by simp [more_size]; try omega))))⟩
set_option maxHeartbeats 4000000 in
theorem ref_erase_ok (h : RM w pr G A cap L mx nx) (hL : L.length ≤ 1000) (id : Int) (hyes : ∀ k, AtK L id k → okAt L id k = true) :
    Calls Try.prog 65 #[.pointer (some ⟨pr, 0, none⟩), .int .i64 id] w fun e w' => e = .returned (.int .i64 0) ∧ ∃ k W A' cap', AtK L id k ∧ Below w.heap.size w W ∧ w' = W.setCell ⟨pr, 0, none⟩ (.slice A' (L.length - 1) cap') ∧ W.ownsRow w.heap.size 63 3 (.slice A' (L.length - 1) cap') (L.length - 1) (rowC sltC (L.take k ++ L.drop (k + 1))) := by
  obtain ⟨i0, hi, hz0, hz1, hz2⟩ := info_parts info_row
  have AT := Lib.hid (at_any9 h id)
  have hh := Lib.hid h
  have hpr : pr < w.heap.size := h.Glt pr h.hp
  clear h
  go_enter Try.func65, Try.ntmps65
  go_wp2_with fail
  refine AT.out.mono ?_
  rintro e w1 ⟨k, rfl, hk, x, rfl⟩
  rw [hyes k hk]
  obtain ⟨hkl, _⟩ := okAt_lt (hyes k hk)
  have hB1 := more_below w x
  have hM1 := Lib.hid (hh.out.below hB1)
  have hsz1 := hB1.size
  generalize more w x = W1 at *
  obtain ⟨g, rfl, hg1, _, _, _⟩ := hM1.out.at_ hkl
  have hgl : g < w.heap.size := hh.out.Glt g (hh.out.hs g rfl).1
  have hgp : g ≠ pr := (hh.out.hs g rfl).2
  have hc1 : L.length ≤ cap ∧ cap ≤ 9223372036854775807 := by
    obtain ⟨A', cp, e, h1, h2, _⟩ := own_open hM1.out.row
    injection e with _ _ e3
    omega
  obtain ⟨hc1, hc2⟩ := hc1
  have c0 : W1.cell? ⟨pr, 0, none⟩ = some (.slice (some ⟨g, 0, none⟩) L.length cap) := hM1.out.box.cell 0
  have ol := Lib.hid (hM1.out.olds k (by omega))
  have nil := Lib.hid (World.ownsRow_nil W1 W1.heap.size 63 3)
  have hkl' : (k : Int) < (L.length : Int) := by omega
  have hkc : (k : Int) < (cap : Int) := by omega
  have hkc1 : (k : Int) + 1 ≤ (cap : Int) := by omega
  have hkl1 : (k : Int) + 1 ≤ (L.length : Int) := by omega
  have hk9 : (k : Int) < 1000 := by omega
  have hwr : IntKind.i64.wrap ((k : Int) + 1) = (k : Int) + 1 := IntWalk.i64_in _ (by omega)
  have htn : ((k : Int) + 1).toNat = k + 1 := by omega
  have hp0 : (0 : Int) ≤ (k : Int) + 1 := by omega
  have hkcN : k ≤ cap := by omega
  have hkc1N : k + 1 ≤ cap := by omega
  have hklN : k + 1 ≤ L.length := by omega
  have htk : (L.take k).length = k := by rw [List.length_take]; omega
  have FC := Lib.hid (show ∀ V, Below W1.heap.size W1 V → V.cell? ⟨pr, 0, none⟩ = some (.slice (some ⟨g, 0, none⟩) L.length cap) ∧ V.frozen? ⟨pr, 0, none⟩ = false ∧ (∀ ad, some (⟨g, 0, none⟩ : Addr) = some ad → ∀ j u, (rowC sltC (L.take k))[j]? = some u → V.cell? (ad.add j) = some u) ∧ ∀ j u, (rowC sltC (L.drop (k + 1)))[j]? = some u → V.cell? ⟨g, (k + 1) * 3 + j, none⟩ = some u from fun V hV => by
    have q1 : V.heap[pr]? = W1.heap[pr]? := hV.block pr (by omega)
    have q2 : V.heap[g]? = W1.heap[g]? := hV.block g (by omega)
    refine ⟨(World.cell?_of_block (w := W1) (a := ⟨pr, 0, none⟩) q1).trans c0, (World.frozen?_of_block (w := W1) (a := ⟨pr, 0, none⟩) q1).trans (hM1.out.box.free 0), fun ad e j u hu => ?_, fun j u hu => (World.cell?_of_block (w := W1) (a := ⟨g, (k + 1) * 3 + j, none⟩) q2).trans (hM1.out.news (k + 1) (by omega) g rfl j u hu)⟩
    have := ol.out ad e j u hu
    cases e
    rw [Go.WideShapes.add_plain] at this ⊢
    exact (World.cell?_of_block (w := W1) (a := ⟨g, _, none⟩) q2).trans this)
  have KC := Lib.hid (show ∀ W3 W4 A3 c3 xs, Below W1.heap.size W1 W3 → W3.ownsRow W1.heap.size 63 3 (.slice A3 k c3) k xs → W3.grownBy W4 (Value.slice A3 k c3).ownBlock → Below W1.heap.size W1 W4 from fun W3 W4 A3 c3 xs b1 o h2 =>
    b1.trans ⟨h2.os, h2.tape, h2.output, h2.size, fun j hj => h2.block j (Nat.lt_of_lt_of_le hj b1.size) (fun e => by have := own_ge o j e.symm; omega)⟩)
  have f0 := hM1.out.box.free 0
  have hdr : Hid ((rowC sltC (L.drop (k + 1))).length = (L.length - (k + 1)) * 3) := Lib.hid (by rw [rowC_length sltC_len, List.length_drop])
  have hlen : k + (L.length - (k + 1)) = L.length - 1 := by omega
  have fin := Lib.hid (show ∀ W4 A4 c4, Below W1.heap.size W1 W4 → W4.ownsRow W1.heap.size 63 3 (.slice A4 (k + (L.length - (k + 1))) c4) (k + (L.length - (k + 1))) (rowC sltC (L.take k) ++ rowC sltC (L.drop (k + 1))) → Below w.heap.size w W4 ∧ W4.ownsRow w.heap.size 63 3 (.slice A4 (L.length - 1) c4) (L.length - 1) (rowC sltC (L.take k ++ L.drop (k + 1))) from fun W4 A4 c4 b o => by
    rw [hlen, ← rowC_append] at o
    exact ⟨hB1.trans (b.mono hsz1), own_lower o hsz1⟩)
  replace hk := Lib.hid hk
  clear hM1 hh AT ol hyes hB1
  rcases Nat.lt_or_ge (k + 1) cap with hkk | hkk
  · have hcap : ((cap : Int) = (k : Int) + 1) = False := eq_false (by omega)
    have hcap' : (cap = k + 1) = False := eq_false (by omega)
    go_wp2_with fail
    go_region_law (first
      | (refine step_append_row (by rfl) (.const (.slice none 0 0)) (.tmp 21) 105 (by rfl) W1.heap.size 63 i0 _ 3 40 Try.underlying105 hi hz0 hz1 hz2 (by rfl) (by decide) (.slice none 0 0) 0 [] (by rfl) (own_below nil.out (by repeat (first | (with_reducible exact Below.refl _ _) | (with_reducible refine Below.drew ?_) | (with_reducible refine Below.alloc ?_ (by simp [more_size]; try omega) _) | (with_reducible refine Below.setCell ?_ (by simp [more_size]; try omega) _) | (with_reducible refine below_more ?_ _ (by simp [more_size]; try omega))))) (some ⟨g, 0, none⟩) k cap (rowC sltC (L.take k)) (by rfl) (fun e => by cases e) (by rw [rowC_length sltC_len, htk]) (FC.out _ (by repeat (first | (with_reducible exact Below.refl _ _) | (with_reducible refine Below.drew ?_) | (with_reducible refine Below.alloc ?_ (by simp [more_size]; try omega) _) | (with_reducible refine Below.setCell ?_ (by simp [more_size]; try omega) _) | (with_reducible refine below_more ?_ _ (by simp [more_size]; try omega))))).2.2.1 (rowC_one sltC_one _) (by unfold maxLen; omega) (by omega) (Nat.le_refl _) ?_; intro A3 c3 W3 own3 grow3 loc3; rw [Nat.zero_add, List.nil_append] at own3; have hB3 : Below W1.heap.size W1 W3 := ⟨grow3.os, grow3.tape, grow3.output, grow3.size, fun j hj => grow3.block j hj (by simp [Value.ownBlock])⟩; obtain ⟨d3, e3, _, n3⟩ := FC.out W3 hB3; replace n3 := Lib.hid n3)
      | (refine step_append_row (by rfl) (.tmp 22) (.tmp 29) 105 (by rfl) W1.heap.size 63 i0 _ 3 40 Try.underlying105 hi hz0 hz1 hz2 (by rfl) (by decide) (.slice A3 k c3) k (rowC sltC (L.take k)) (by rfl) own3 (some ⟨g, (k + 1) * 3, none⟩) (L.length - (k + 1)) (cap - (k + 1)) (rowC sltC (L.drop (k + 1))) (by rfl) (fun e => by cases e) hdr.out (fun ad e j u hu => by cases e; rw [Go.WideShapes.add_plain]; exact n3.out j u hu) (rowC_one sltC_one _) (by unfold maxLen; omega) (by omega) hB3.size ?_; intro A4 c4 W4 own4 grow4 loc4; have hB4 := KC.out W3 W4 A3 c3 _ hB3 own3 grow4; obtain ⟨d4, e4, _⟩ := FC.out W4 hB4))
    all_goals
      obtain ⟨f1, f2⟩ := fin.out W4 A4 c4 hB4 own4
      replace f1 := Lib.hid f1
      replace f2 := Lib.hid f2
      try rw [hlen]
      clear fin own4 grow4 loc4 hB4 d4 e4 own3 grow3 loc3 hB3 d3 e3 n3 FC KC f0 c0 nil
      go_simp
      go_wp2
      go_ret
      exact ⟨rfl, k, W4, A4, c4, hk.out, f1.out, rfl, f2.out⟩
  · have hcap : cap = k + 1 := by omega
    have hlk : L.length = k + 1 := by omega
    have hz : L.drop (k + 1) = [] := List.drop_eq_nil_of_le (by omega)
    have fin2 := Lib.hid (show ∀ W4 A4 c4, Below W1.heap.size W1 W4 → W4.ownsRow W1.heap.size 63 3 (.slice A4 (k + 0) c4) (k + 0) (rowC sltC (L.take k) ++ []) → Below w.heap.size w W4 ∧ W4.ownsRow w.heap.size 63 3 (.slice A4 k c4) k (rowC sltC (L.take k ++ L.drop (k + 1))) from fun W4 A4 c4 b o => by
      have := fin.out W4 A4 c4 b (by rw [hlk, Nat.sub_self, hz]; exact o)
      rwa [hlk, Nat.add_sub_cancel] at this)
    have hl1 : Hid (L.length - 1 = k) := Lib.hid (by omega)
    have hk11 : (k : Int) ≤ (k : Int) + 1 := by omega
    have hk12 : ((k : Int) ≤ (k : Int) + 1) = True := eq_true (by omega)
    subst hcap
    rw [hlk] at c0 FC
    clear fin hdr hlen hkk hz
    go_wp2_with fail
    go_region_law (first
      | (refine step_append_row (by rfl) (.const (.slice none 0 0)) (.tmp 21) 105 (by rfl) W1.heap.size 63 i0 _ 3 40 Try.underlying105 hi hz0 hz1 hz2 (by rfl) (by decide) (.slice none 0 0) 0 [] (by rfl) (own_below nil.out (by repeat (first | (with_reducible exact Below.refl _ _) | (with_reducible refine Below.drew ?_) | (with_reducible refine Below.alloc ?_ (by simp [more_size]; try omega) _) | (with_reducible refine Below.setCell ?_ (by simp [more_size]; try omega) _) | (with_reducible refine below_more ?_ _ (by simp [more_size]; try omega))))) (some ⟨g, 0, none⟩) k (k + 1) (rowC sltC (L.take k)) (by rfl) (fun e => by cases e) (by rw [rowC_length sltC_len, htk]) (FC.out _ (by repeat (first | (with_reducible exact Below.refl _ _) | (with_reducible refine Below.drew ?_) | (with_reducible refine Below.alloc ?_ (by simp [more_size]; try omega) _) | (with_reducible refine Below.setCell ?_ (by simp [more_size]; try omega) _) | (with_reducible refine below_more ?_ _ (by simp [more_size]; try omega))))).2.2.1 (rowC_one sltC_one _) (by unfold maxLen; omega) (by omega) (Nat.le_refl _) ?_; intro A3 c3 W3 own3 grow3 loc3; rw [Nat.zero_add, List.nil_append] at own3; have hB3 : Below W1.heap.size W1 W3 := ⟨grow3.os, grow3.tape, grow3.output, grow3.size, fun j hj => grow3.block j hj (by simp [Value.ownBlock])⟩; obtain ⟨d3, e3, _, n3⟩ := FC.out W3 hB3; replace n3 := Lib.hid n3)
      | (refine step_append_row (by rfl) (.tmp 22) (.tmp 29) 105 (by rfl) W1.heap.size 63 i0 _ 3 40 Try.underlying105 hi hz0 hz1 hz2 (by rfl) (by decide) (.slice A3 k c3) k (rowC sltC (L.take k)) (by rfl) own3 (some ⟨g, 0, none⟩) 0 0 [] (by rfl) (fun e => by cases e) (by simp) (fun ad e j u hu => by simp at hu) (fun u hu => by simp at hu) (by unfold maxLen; omega) (by omega) hB3.size ?_; intro A4 c4 W4 own4 grow4 loc4; have hB4 := KC.out W3 W4 A3 c3 _ hB3 own3 grow4; obtain ⟨d4, e4, _⟩ := FC.out W4 hB4))
    all_goals
      obtain ⟨f1, f2⟩ := fin2.out W4 A4 c4 hB4 own4
      replace f1 := Lib.hid f1
      replace f2 := Lib.hid f2
      try rw [Nat.add_zero]
      clear fin2 own4 grow4 loc4 hB4 d4 e4 own3 grow3 loc3 hB3 d3 e3 n3 FC KC f0 c0 nil
      go_simp
      go_wp2
      go_ret
      first
        | exact ⟨rfl, k, W4, A4, c4, hk.out, f1.out, rfl, f2.out⟩
        | exact ⟨rfl, k, W4, A4, c4, hk.out, f1.out, by rw [hl1.out], by rw [hl1.out]; exact f2.out⟩
end Go.Proofs.Ytilpgojkbgbinaa
