/- HashFloats: the walk (under way). -/
import Derived.Test.YtijegkiapbmekaaHfloats
import Derived.Test.YtijegkiapbmekaaOpenR
import Derived.Deep.LoopGhost
set_option maxRecDepth 100000
set_option linter.unusedVariables false
set_option linter.unusedSimpArgs false
namespace Go.Proofs.Ytijegkiapbmekaa
open Go.RowKit
open Go.Maps (has size Keyed int_keyed keyOf_int_mk)
attribute [local go_sem] run_frombits run_tobits more_more more_drew more_drewN more_size more_cell more_frozen run_store_float lt_c1 le_c1 lt_s1 le_s1 lt_c2 le_c2 lt_s2 le_s2 lt_c3 le_c3 lt_s3 le_s3 lt_c4 le_c4 lt_s4 le_s4 lt_c5 le_c5 lt_s5 le_s5 lt_c6 le_c6 lt_s6 le_s6 lt_c7 le_c7 lt_s7 le_s7 lt_c8 le_c8 lt_s8 le_s8 lt_c9 le_c9 lt_s9 le_s9 lt_c10 le_c10 lt_s10 le_s10 lt_c11 le_c11 lt_s11 le_s11 lt_c12 le_c12 lt_s12 le_s12 le_c0
def u64C (n : Nat) : List Value := [.int .u64 (n : Nat)]
set_option maxHeartbeats 4000000 in
theorem flIn10 (b : Nat) (W : World) : ValsIn (W.alloc (.cells #[.int .i64 5, .int .i64 0, .string ⟨#[]⟩, .float .f64 b] 32)) (some ⟨W.heap.size, 0, none⟩) (fl10 b) := valsIn_one ⟨5, 0, ⟨#[]⟩, b⟩ rfl
set_option maxHeartbeats 4000000 in
theorem walk_HashFloats (A : Option Addr) (ca : Nat) (l : List Nat) (hl : ∀ b ∈ l, b < 18446744073709551616) (w : World) (la : l.length ≤ 9223372036854775807) (ha : RowIn u64C 1 w A l) :
    Gives Try.prog 3 #[.slice A l.length ca] w (.bool true) := by
  rcases Nat.lt_or_ge 40 l.length with h40 | h40
  · have h1 : (40 : Int) < (l.length : Int) := by omega
    go_enter Try.func3, Try.ntmps3
    go_wp2_with fail
    refine (known10 _).mono' ?_; intro x
    go_wp2
    go_ret
    exact ⟨rfl, (more_of_below (by repeat (first | (with_reducible exact Below.refl _ _) | (with_reducible refine Below.drew ?_) | (with_reducible refine Below.alloc ?_ (by simp [more_size]; try omega) _) | (with_reducible refine Below.setCell ?_ (by simp [more_size]; try omega) _) | (with_reducible refine below_more ?_ _ (by simp [more_size]; try omega)))))⟩
  have h1 : ((40 : Int) < (l.length : Int)) = False := eq_false (by omega)
  clear la
  go_enter Try.func3, Try.ntmps3
  go_wp2_with fail
  refine (known10 _).mono' ?_; intro x
  go_wp2_with fail
  refine (hi_new true (w0 := w) (by repeat (first | (with_reducible exact Below.refl _ _) | (with_reducible refine Below.drew ?_) | (with_reducible refine Below.alloc ?_ (by simp [more_size]; try omega) _) | (with_reducible refine Below.setCell ?_ (by simp [more_size]; try omega) _) | (with_reducible refine below_more ?_ _ (by simp [more_size]; try omega))))).mono ?_
  rintro e w1 ⟨p, rfl, h0⟩
  replace h0 := Lib.hid h0
  have HA := Lib.hid (show ∀ j (hj : j < l.length), ∃ b o, A = some ⟨b, o, none⟩ ∧ b < w.heap.size ∧ w.cell? ⟨b, o + j, none⟩ = some (.int .u64 (l[j] : Nat)) from fun j hj => by
    obtain ⟨b, o, e, hl, hc⟩ := ha j hj
    exact ⟨b, o, e, hl, by have := hc j hj 0 _ rfl; simpa using this⟩)
  have HL := Lib.hid hl
  clear ha hl h1
  go_wp2_with fail
  go_loopg [4] l.length (fun k s4 W => ∃ (i : Nat) (C : List Chn), k = l.length - i ∧ i ≤ l.length ∧ s4 = .int .i64 (i : Nat) ∧ Hid (HI w W p true C.length C ∧ Fst l i C))
  case atStart => exact ⟨0, [], by omega, by omega, rfl, Lib.hid ⟨h0.out, Fst.nil l⟩⟩
  case round =>
    obtain ⟨i, C, rfl, hi, rfl, hI⟩ := hrel
    by_cases h1 : i < l.length
    · have h1' : (i : Int) < (l.length : Int) := by omega
      obtain ⟨Wi, rfl⟩ : ∃ Wi : World, Wi = wr := ⟨_, rfl⟩
      obtain ⟨b, o, rfl, hb, a0⟩ := HA.out i h1
      have hbw := Lib.hid hI.out.1.bel
      have aF := Lib.hid (show ∀ k (hk : k < l.length), ∀ W, Below w.heap.size w W → W.cell? ⟨b, o + k, none⟩ = some (.int .u64 (l[k] : Nat)) from fun k hk W hW => by
        obtain ⟨b2, o2, e, hb2, c⟩ := HA.out k hk
        injection e with e
        injection e with e1 e2
        subst e1 e2
        exact (hW.cell hb2).trans c)
      go_wp2_with fail
      go_loopg [5, 6] i (fun k s5 s6 W' => ∃ (j : Nat) (x : Ext), k = i - j ∧ j ≤ i ∧ s6 = .int .i64 (j : Nat) ∧ s5 = .bool (first10 l i j) ∧ W' = more Wi x)
      case atStart => exact ⟨0, ⟨#[], Wi.drawn⟩, by omega, by omega, rfl, rfl, (more_self _).symm⟩
      case round =>
        obtain ⟨j, x, rfl, hj, rfl, rfl, rfl⟩ := hrel
        by_cases h2 : j < i
        · have h2' : (j : Int) < (i : Int) := by omega
          have b0 := fun y => aF.out i h1 (more Wi y) (hbw.out.trans ((more_below Wi y).mono hbw.out.size))
          have b1 := fun y => aF.out j (by omega) (more Wi y) (hbw.out.trans ((more_below Wi y).mono hbw.out.size))
          have hs : first10 l i (j + 1) = (first10 l i j && (l[j] != l[i])) := by
            unfold first10
            rw [List.take_add_one, List.getElem?_eq_getElem (by omega), List.all_append]
            simp [List.getD, List.getElem?_eq_getElem h1]
          have hjl : (j : Int) < (l.length : Int) := by omega
          replace hs := Lib.hid hs
          clear a0
          generalize l[i] = vi at *
          generalize l[j] = vj at *
          cases hf : first10 l i j with
          | false =>
            rw [hf] at hs
            clear hf
            go_wp2_with fail
            refine wp_region_more2 (by kernel_rfl) (by kernel_rfl) ?_
            repeat (go_big_quiet_step (fail))
            refine wpQuiet_nil ?_
            rintro _ ⟨z, rfl⟩
            go_wp2
            go_roundg (i - (j + 1))
            case measure => omega
            case rel => exact ⟨j + 1, _, rfl, by omega, by go_num, by rw [hs.out]; rfl, rfl⟩
          | true =>
            rw [hf] at hs
            clear hf
            go_wp2_with fail
            refine wp_region_more2 (by kernel_rfl) (by kernel_rfl) ?_
            repeat (go_big_quiet_step (fail))
            refine wpQuiet_nil ?_
            rintro _ ⟨z, rfl⟩
            go_wp2
            go_roundg (i - (j + 1))
            case measure => omega
            case rel => exact ⟨j + 1, _, rfl, by omega, by go_num, by rw [hs.out]; simp only [Bool.true_and, bne]; congr 1; rw [Bool.eq_iff_iff]; simp; omega, rfl⟩
        · have e : j = i := by omega
          subst e
          have h2' : ((j : Int) < (j : Int)) = False := eq_false (by omega)
          have hWx : Hid (HI w (more Wi x) p true C.length C) := Lib.hid (hI.out.1.below (more_below Wi x))
          have hC := Lib.hid hI.out.2
          clear hI hbw
          generalize more Wi x = Wx at *
          have a1 := aF.out j h1 Wx hWx.out.bel
          have hb9 := HL.out l[j] (List.getElem_mem h1)
          have INS := Lib.hid (show Calls Try.prog 9 #[.pointer (some ⟨p, 0, none⟩), .slice (some ⟨Wx.heap.size, 0, none⟩) 1 1, .int .i64 ((j : Int) + 1)] (Wx.alloc (.cells #[.int .i64 5, .int .i64 0, .string ⟨#[]⟩, .float .f64 l[j]] 32)) fun e w' => ∃ C', Hid (HI w w' p true C'.length C' ∧ Fst l (j + 1) C') ∧ ((e = .returned (.int .i64 0) ∧ first10 l j j = true) ∨ (e = .returned (.int .i64 80) ∧ first10 l j j = false)) from by
            have hA : HI w (Wx.alloc (.cells #[.int .i64 5, .int .i64 0, .string ⟨#[]⟩, .float .f64 l[j]] 32)) p true C.length C := hWx.out.below (by repeat (first | (with_reducible exact Below.refl _ _) | (with_reducible refine Below.drew ?_) | (with_reducible refine Below.alloc ?_ (by simp [more_size]; try omega) _) | (with_reducible refine Below.setCell ?_ (by simp [more_size]; try omega) _) | (with_reducible refine below_more ?_ _ (by simp [more_size]; try omega))))
            have hle := hC.out.le
            cases hf : first10 l j j with
            | true =>
              refine (hi_ins (key := fl10 l[j]) hA _ 1 (fl10_ok hb9) (by simp [fl10]) (fun e => by cases e) (flIn10 l[j] Wx) (hC.out.is_new h1 hf) ((j : Int) + 1) (by omega) (by omega)).mono ?_
              rintro e w' ⟨rfl, c, hk, hi', h9⟩
              exact ⟨C ++ [c], Lib.hid ⟨by simpa using h9, hC.out.new h1 hk hi'⟩, .inl ⟨rfl, rfl⟩⟩
            | false =>
              obtain ⟨c, hm, hk⟩ := hC.out.is_dup h1 hf
              obtain ⟨F, M, D, q1, q2, q3⟩ := hA
              obtain ⟨j2, hj2, hlt, hk2, hids⟩ := hC.out.each c hm
              refine (hins_dup q1 _ 1 (fl10_ok hb9) (by simp [fl10]) (flIn10 l[j] Wx) hm hk (by rw [hids]; simp) ((j : Int) + 1) (by rw [hids]; simp; omega)).mono' ?_
              intro y
              exact ⟨C, Lib.hid ⟨(hWx.out.below (by repeat (first | (with_reducible exact Below.refl _ _) | (with_reducible refine Below.drew ?_) | (with_reducible refine Below.alloc ?_ (by simp [more_size]; try omega) _) | (with_reducible refine Below.setCell ?_ (by simp [more_size]; try omega) _) | (with_reducible refine below_more ?_ _ (by simp [more_size]; try omega))))).below (more_below _ y), hC.out.dup h1 hm hk⟩, .inr ⟨rfl, rfl⟩⟩)
          have hw2 : IntKind.i64.wrap ((j : Int) + 1) = (j : Int) + 1 := IntWalk.i64_in _ (by omega)
          have hw1 : wrap64 ((j : Int) + 1) = (j : Int) + 1 := by unfold wrap64; omega
          clear hC hWx aF hj hb9
          generalize first10 l j j = ff at *
          generalize l[j] = vj at *
          go_wp2_with fail
          refine INS.out.mono ?_
          rintro e w9 ⟨C', hI', hcs⟩
          clear INS
          rcases hcs with ⟨rfl, rfl⟩ | ⟨rfl, rfl⟩
          all_goals
            go_wp2
            go_roundg (l.length - (j + 1))
            case measure => omega
            case rel => exact ⟨j + 1, C', rfl, by omega, by go_num, hI'⟩
    · have e : i = l.length := by omega
      subst e
      have h1' : ((l.length : Int) < (l.length : Int)) = False := eq_false (by omega)
      have hF := Lib.hid hI.out.2
      have hI' := Lib.hid hI.out.1
      clear hI h1 h0
      go_wp2_with fail
      go_loopg [8] l.length (fun k s8 W => ∃ (i : Nat), k = l.length - i ∧ i ≤ l.length ∧ s8 = .int .i64 (i : Nat) ∧ Hid (HI w W p true C.length C))
      case atStart => exact ⟨0, by omega, by omega, rfl, hI'⟩
      case round =>
        clear hI'
        obtain ⟨i, rfl, hi, rfl, hI⟩ := hrel
        by_cases h1 : i < l.length
        · have h1' : (i : Int) < (l.length : Int) := by omega
          obtain ⟨Wi, rfl⟩ : ∃ Wi : World, Wi = wr := ⟨_, rfl⟩
          obtain ⟨b, o, rfl, hb, a0⟩ := HA.out i h1
          have aF := Lib.hid (show ∀ k (hk : k < l.length), ∀ W, Below w.heap.size w W → W.cell? ⟨b, o + k, none⟩ = some (.int .u64 (l[k] : Nat)) from fun k hk W hW => by
            obtain ⟨b2, o2, e, hb2, c⟩ := HA.out k hk
            injection e with e
            injection e with e1 e2
            subst e1 e2
            exact (hW.cell hb2).trans c)
          have a1 := aF.out i h1 Wi hI.out.bel
          obtain ⟨c, hm, hk⟩ := hF.out.all i h1 h1
          obtain ⟨j, hj, _, hk2, hids⟩ := hF.out.each c hm
          have hlj : l[j] = l[i] := fl10_inj (hk2.symm.trans hk)
          have hb9 := HL.out l[i] (List.getElem_mem h1)
          have FY := Lib.hid (show Calls Try.prog 11 #[.pointer (some ⟨p, 0, none⟩), .slice (some ⟨Wi.heap.size, 0, none⟩) 1 1] (Wi.alloc (.cells #[.int .i64 5, .int .i64 0, .string ⟨#[]⟩, .float .f64 l[i]] 32)) fun e w' => ∃ (g cp : Nat), e = .returned (.slice (some ⟨g, 0, none⟩) 1 cp) ∧ Hid (HI w w' p true C.length C ∧ g < w'.heap.size ∧ w'.cell? ⟨g, 0, none⟩ = some (.int .i64 ((j : Int) + 1))) from by
            have hA : HI w (Wi.alloc (.cells #[.int .i64 5, .int .i64 0, .string ⟨#[]⟩, .float .f64 l[i]] 32)) p true C.length C := hI.out.below (by repeat (first | (with_reducible exact Below.refl _ _) | (with_reducible refine Below.drew ?_) | (with_reducible refine Below.alloc ?_ (by simp [more_size]; try omega) _) | (with_reducible refine Below.setCell ?_ (by simp [more_size]; try omega) _) | (with_reducible refine below_more ?_ _ (by simp [more_size]; try omega))))
            have hA2 := hA
            obtain ⟨F, M, D, q1, q2, q3⟩ := hA2
            refine (hfind_yes q1 _ 1 (fl10_ok hb9) (by simp [fl10]) (flIn10 l[i] Wi) hm hk (by rw [hids]; simp)).mono ?_
            rintro e w' ⟨v, rfl, own, hB⟩
            rw [hids] at own
            obtain ⟨g, cp, rfl⟩ := own_some9 own (by simp)
            have e1 : w'.ownsRow _ 2 1 (.slice (some ⟨g, 0, none⟩) [((j : Nat) : Int) + 1].length cp) [((j : Nat) : Int) + 1].length (rowC intC [((j : Nat) : Int) + 1]) := own
            obtain ⟨A9, c9, e9, _, _, _, q9⟩ := rowIn_own (c := intC) (s := 1) (fun _ => rfl) rfl e1
            injection e9 with e9
            subst e9
            obtain ⟨b2, o2, e2, hl2, hc2⟩ := q9 0 (by simp)
            injection e2 with e2
            injection e2 with e21 e22
            subst e21 e22
            exact ⟨g, cp, rfl, Lib.hid ⟨hA.below hB, hl2, by have := hc2 0 (by simp) 0 _ rfl; simpa using this⟩⟩)
          have hjl : (j : Int) < (l.length : Int) := by omega
          have hw2 : IntKind.i64.wrap ((j : Int) + 1 - 1) = (j : Int) := by rw [show (j : Int) + 1 - 1 = j by omega]; exact IntWalk.i64_in _ (by omega)
          have hw1 : wrap64 ((j : Int) + 1 - 1) = (j : Int) := by unfold wrap64; omega
          have f1 : ((j : Int) + 1 < 1) = False := eq_false (by omega)
          have f2 : ((l.length : Int) < (j : Int) + 1) = False := eq_false (by omega)
          replace aF := Lib.hid (aF.out j hj)
          rw [hlj] at aF
          have aF2 := Lib.hid (show ∀ W, Below w.heap.size w W → W.cell? ⟨b, o + i, none⟩ = some (.int .u64 (l[i] : Nat)) from fun W hW => (hW.cell hb).trans a0)
          clear hI hk hk2 hids hm hF hb9 hlj a0
          generalize l[i] = vi at *
          go_wp2_with fail
          refine FY.out.mono ?_
          rintro e w9 ⟨g, cp, rfl, h9⟩
          have b1 := fun y => aF.out (more w9 y) (h9.out.1.below (more_below w9 y)).bel
          have b2 := fun y => aF2.out (more w9 y) (h9.out.1.below (more_below w9 y)).bel
          have b3 := fun y => (more_cell w9 y 0 h9.out.2.1).trans h9.out.2.2
          have hM := Lib.hid (fun y => h9.out.1.below (more_below w9 y))
          clear FY aF aF2 h9 a1
          go_wp2_with fail
          refine wp_region_more (by kernel_rfl) (by kernel_rfl) ?_
          repeat (go_big_quiet_step (fail))
          refine wpQuiet_nil ?_
          rintro _ ⟨z, rfl⟩
          go_wp2
          go_roundg (l.length - (i + 1))
          case measure => omega
          case rel => exact ⟨i + 1, rfl, by omega, by go_num, Lib.hid (hM.out z)⟩
        · have e : i = l.length := by omega
          subst e
          have h1' : ((l.length : Int) < (l.length : Int)) = False := eq_false (by omega)
          have hfin := Lib.hid hI.out.bel
          clear hI h1
          go_wp2
          go_ret
          exact ⟨rfl, more_of_below hfin.out⟩
end Go.Proofs.Ytijegkiapbmekaa
