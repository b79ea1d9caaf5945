/- The statements' hooks: rows of functions. -/
import Derived.Test.YtilpgojkbgbinaaMany
import Derived.Test.YtilpgojkbgbinaaOpen5
import Derived.Test.YtilpgojkbgbinaaInsert
import Derived.Deep.RegionLaw
import Derived.Deep.AppendLies
set_option maxRecDepth 100000
set_option linter.unusedVariables false
set_option linter.unusedSimpArgs false
namespace Go.Proofs.Ytilpgojkbgbinaa
open Go.RowKit
attribute [local go_sem] run_frombits run_tobits more_more more_drew more_drewN more_size more_cell more_frozen run_store_float lt_c1 le_c1 lt_s1 le_s1 lt_c2 le_c2 lt_s2 le_s2 lt_c3 le_c3 lt_s3 le_s3 lt_c4 le_c4 lt_s4 le_s4 lt_c5 le_c5 lt_s5 le_s5 lt_c6 le_c6 lt_s6 le_s6 lt_c7 le_c7 lt_s7 le_s7 lt_c8 le_c8 lt_s8 le_s8 lt_c9 le_c9 lt_s9 le_s9 lt_c10 le_c10 lt_s10 le_s10 lt_c11 le_c11 lt_s11 le_s11 lt_c12 le_c12 lt_s12 le_s12 le_c0
theorem info_ext : (Try.prog.info? 132).map (fun i => (i.zero, i.size, i.bytes)) = some (some .nilFunc, 1, 8) := by kernel_rfl
theorem info_cmp : (Try.prog.info? 134).map (fun i => (i.zero, i.size, i.bytes)) = some (some .nilFunc, 1, 8) := by kernel_rfl
/-- a row of hooks of the call's own -/
def HookRow (w : World) (base : Nat) (e : TypeId) (v : Value) (n : Nat) (l : List Bool) : Prop := ∃ xs, w.ownsRow base e 1 v n xs ∧ l.length = n ∧ ∀ j (h : j < l.length), ∃ u, xs[j]? = some u ∧ HookIs u l[j]
theorem hookrow_nil (w : World) (base : Nat) (e : TypeId) : HookRow w base e (.slice none 0 0) 0 [] := ⟨[], World.ownsRow_nil _ _ _ _, rfl, fun j h => by simp at h⟩
theorem HookRow.snoc {w' : World} {base n : Nat} {e : TypeId} {v' : Value} {l : List Bool} {xs : List Value} {u : Value} {b : Bool} (hl : l.length = n) (hx : ∀ j (h : j < l.length), ∃ u, xs[j]? = some u ∧ HookIs u l[j]) (hn : xs.length = n)
    (own : w'.ownsRow base e 1 v' (n + 1) (xs ++ [u])) (hu : HookIs u b) : HookRow w' base e v' (n + 1) (l ++ [b]) := by
  refine ⟨_, own, by simp [hl], fun j h => ?_⟩
  rcases Nat.lt_or_ge j l.length with q | q
  · obtain ⟨y, h1, h2⟩ := hx j q
    refine ⟨y, ?_, ?_⟩
    · rw [List.getElem?_append_left (by omega)]; exact h1
    · rw [List.getElem_append_left q]; exact h2
  · have e1 : j = l.length := by simp at h; omega
    subst e1
    refine ⟨u, ?_, ?_⟩
    · rw [List.getElem?_append_right (by omega), hl, hn]; simp
    · rw [List.getElem_append_right (by omega)]; simpa using hu
theorem HookRow.same {w w' : World} {base n : Nat} {e : TypeId} {v : Value} {l : List Bool} (h : HookRow w base e v n l) (hk : ∀ g, v.ownBlock = some g → w'.heap[g]? = w.heap[g]?) : HookRow w' base e v n l := by
  obtain ⟨xs, own, r⟩ := h
  refine ⟨xs, ⟨own.1, ?_⟩, r⟩
  rcases own.2 with h2 | ⟨g, cap, cur, rfl, hb, hg, r⟩
  · exact .inl h2
  · exact .inr ⟨g, cap, cur, rfl, hb, (hk g rfl).trans hg, r⟩
theorem HookRow.base {w : World} {base n : Nat} {e : TypeId} {v : Value} {l : List Bool} (h : HookRow w base e v n l) : HookRow w 0 e v n l := by
  obtain ⟨xs, own, r⟩ := h
  refine ⟨xs, ⟨own.1, ?_⟩, r⟩
  rcases own.2 with h2 | ⟨g, cap, cur, rfl, hb, hg, r⟩
  · exact .inl h2
  · exact .inr ⟨g, cap, cur, rfl, Nat.zero_le _, hg, r⟩
theorem HookRow.hooks {w : World} {base n : Nat} {e : TypeId} {v : Value} {l : List Bool} (h : HookRow w base e v n l) : ∃ A cap, v = .slice A l.length cap ∧ HooksIn w A l ∧ (0 < n → ∃ g, A = some ⟨g, 0, none⟩ ∧ g < w.heap.size ∧ base ≤ g) := by
  obtain ⟨xs, own, hl, hx⟩ := h
  obtain ⟨A, cap, rfl, h1, h2, h3, h4⟩ := own_open own
  refine ⟨A, cap, by rw [hl], fun j hj => ?_, fun h0 => ?_⟩
  · obtain ⟨g, rfl, hg1, hg2, hc⟩ := h4 (by omega)
    refine ⟨g, 0, rfl, hg2, fun i hi => ?_⟩
    obtain ⟨u, q1, q2⟩ := hx i hi
    exact ⟨u, by rw [Nat.zero_add]; exact hc i u q1, q2⟩
  · obtain ⟨g, rfl, hg1, hg2, hc⟩ := h4 h0
    exact ⟨g, rfl, hg2, hg1⟩
theorem extr_any (i : Int) (w : World) : Calls Try.prog 104 #[.int .i64 i, .pointer none] w fun e w' => ∃ f x y, e = .returned (.func f x y) ∧ ∃ o1 o2, w' = (w.alloc o1).alloc o2 := by
  go_enter Try.func104, Try.ntmps104
  go_wp2
  go_ret
  exact ⟨_, _, _, rfl, _, _, rfl⟩
theorem compr_any (i : Int) (w : World) : Calls Try.prog 105 #[.int .i64 i, .pointer none] w fun e w' => ∃ f x y, e = .returned (.func f x y) ∧ ∃ o1 o2, w' = (w.alloc o1).alloc o2 := by
  go_enter Try.func105, Try.ntmps105
  go_wp2
  go_ret
  exact ⟨_, _, _, rfl, _, _, rfl⟩
set_option maxHeartbeats 2000000 in
theorem allhooks (w : World) : Calls Try.prog 82 #[.pointer none] w fun e w' => ∃ v1 v2, e = .returned (.agg #[v1, v2]) ∧ HookRow w' 0 132 v1 5 (List.replicate 5 true) ∧ HookRow w' 0 134 v2 3 (List.replicate 3 true) ∧ Below w.heap.size w w' := by
  obtain ⟨i0, hi0, hi1, hi2, hi3⟩ := info_parts info_ext
  obtain ⟨j0, hj0, hj1, hj2, hj3⟩ := info_parts info_cmp
  have nl1 := Lib.hid (fun w base => hookrow_nil w base 132)
  have nl2 := Lib.hid (fun w base => hookrow_nil w base 134)
  go_enter Try.func82, Try.ntmps82
  go_wp2_with fail
  refine wp_named (R := fun W => Blk W (w.heap.size + 1) #[.slice none 0 0, .slice none 0 0] 41 ∧ Blk W w.heap.size #[.slice none 0 0, .slice none 0 0] 41 ∧ Below w.heap.size w W) ⟨Blk.new _ _ _ (by simp), (Blk.new _ _ _ rfl).alloc _, (by repeat (first | (with_reducible exact Below.refl _ _) | (with_reducible refine Below.drew ?_) | (with_reducible refine Below.alloc ?_ (by simp [more_size]; try omega) _) | (with_reducible refine Below.setCell ?_ (by simp [more_size]; try omega) _) | (with_reducible refine below_more ?_ _ (by simp [more_size]; try omega))))⟩ ?_
  rintro W ⟨bW, rW, beW⟩
  replace bW := Lib.hid bW
  replace rW := Lib.hid rW
  replace beW := Lib.hid beW
  generalize hg : w.heap.size = g at *
  replace hg := Lib.hid hg
  go_wp2
  go_loopw [4] (fun t wr => ∃ (i : Nat) (v : Value), t = .int .i64 i ∧ i ≤ 5 ∧ Hid (HookRow wr (g + 2) 132 v i (List.replicate i true)) ∧ Hid (Blk wr (g + 1) #[v, .slice none 0 0] 41) ∧ Hid (Blk wr g #[.slice none 0 0, .slice none 0 0] 41) ∧ Hid (Below g w wr)) (fun t _ => 5 - (intOf t).toNat)
  case atStart => exact ⟨0, _, rfl, by omega, Lib.hid (nl1.out _ _), bW, rW, beW⟩
  case round =>
    obtain ⟨i, v, rfl, hi, hR, hb, hr, hB⟩ := hrel
    by_cases h5 : i < 5
    · have h5' : (i : Int) < 5 := by omega
      obtain ⟨xs, own, hl, hx⟩ := hR.out
      have hxl : xs.length = i := by have := own.1; omega
      have hp := hb.out.lt
      have c0 : wr.cell? ⟨g + 1, 0, none⟩ = some v := hb.out.cell 0
      have KA := Lib.hid (show ∀ W0, Below wr.heap.size wr W0 → W0.cell? ⟨g + 1, 0, none⟩ = some v from fun W0 h => (h.cell (p := ⟨g + 1, 0, none⟩) hp).trans c0)
      have KB := Lib.hid (show ∀ W0 w1, Below wr.heap.size wr W0 → W0.grownBy w1 v.ownBlock → Blk w1 (g + 1) #[v, .slice none 0 0] 41 ∧ Blk w1 g #[.slice none 0 0, .slice none 0 0] 41 ∧ Below g w w1 from fun W0 w1 h1 h2 => by
        have e : ∀ k, k < wr.heap.size → k < g + 2 → w1.heap[k]? = wr.heap[k]? := fun k hk hk2 => (h2.block k (Nat.lt_of_lt_of_le hk h1.size) (fun e => by have := own_ge own k e.symm; omega)).trans (h1.block k hk)
        exact ⟨(e (g + 1) hp (by omega)).trans hb.out, (e g (by omega) (by omega)).trans hr.out, hB.out.trans ⟨h2.os.trans h1.os, h2.tape.trans h1.tape, h2.output.trans h1.output, Nat.le_trans h1.size h2.size, fun k hk => e k (by omega) (by omega)⟩⟩)
      have KC := Lib.hid (show ∀ w1 g1 cap f x y, w1.ownsRow (g + 2) 132 1 (.slice (some ⟨g1, 0, none⟩) (i + 1) cap) (i + 1) (xs ++ [.func f x y]) → HookRow w1 (g + 2) 132 (.slice (some ⟨g1, 0, none⟩) (i + 1) cap) (i + 1) (List.replicate (i + 1) true) from fun w1 g1 cap f x y o => by
        rw [List.replicate_succ']
        exact HookRow.snoc hl hx hxl o (.inr ⟨rfl, f, x, y, rfl⟩))
      replace own := Lib.hid own
      clear hR hb hr hB hx
      go_wp2_with fail
      go_region_law (first
        | (refine step_append_lies _ (by rfl) _ _ 38 (by rfl) (g + 2) 132 i0 .nilFunc 1 8 Try.underlying38 hi0 hi1 hi2 hi3 (by rfl) (by decide) v i xs (by rfl) (own_below own.out (by repeat (first | (with_reducible exact Below.refl _ _) | (with_reducible refine Below.drew ?_) | (with_reducible refine Below.alloc ?_ (by simp [more_size]; try omega) _) | (with_reducible refine Below.setCell ?_ (by simp [more_size]; try omega) _) | (with_reducible refine below_more ?_ _ (by simp [more_size]; try omega))))) ⟨wr.heap.size + 1 + 1, 0, none⟩ 1 1 [_] (by rfl) (by rfl) (cells_at _ [_] _ (by simp)) (fun u hu => by simp at hu; subst hu; rfl) (by decide) (by unfold maxLen; omega) (by omega) (by simp; omega) _ rfl ?_; intro g1 cap w1 own1 grow1 hat hlt; obtain ⟨d0, d1, d2⟩ := KB.out _ w1 (by repeat (first | (with_reducible exact Below.refl _ _) | (with_reducible refine Below.drew ?_) | (with_reducible refine Below.alloc ?_ (by simp [more_size]; try omega) _) | (with_reducible refine Below.setCell ?_ (by simp [more_size]; try omega) _) | (with_reducible refine below_more ?_ _ (by simp [more_size]; try omega)))) grow1; have e0 := d0.cell 0; have f0 := d0.free 0)
        | (go_simp; go_at_call 104; refine (extr_any _ _).mono ?_; rintro e w' ⟨f, x, y, rfl, o1, o2, rfl⟩; have k0 := KA.out ((wr.alloc o1).alloc o2) (by repeat (first | (with_reducible exact Below.refl _ _) | (with_reducible refine Below.drew ?_) | (with_reducible refine Below.alloc ?_ (by simp [more_size]; try omega) _) | (with_reducible refine Below.setCell ?_ (by simp [more_size]; try omega) _) | (with_reducible refine below_more ?_ _ (by simp [more_size]; try omega)))); have k1 := KA.out (((wr.alloc o1).alloc o2).alloc (.cells #[.func f x y] 132)) (by repeat (first | (with_reducible exact Below.refl _ _) | (with_reducible refine Below.drew ?_) | (with_reducible refine Below.alloc ?_ (by simp [more_size]; try omega) _) | (with_reducible refine Below.setCell ?_ (by simp [more_size]; try omega) _) | (with_reducible refine below_more ?_ _ (by simp [more_size]; try omega))))))
      all_goals
        have e1 := Lib.hid (show HookRow (w1.setCell ⟨g + 1, 0, none⟩ (.slice (some ⟨g1, 0, none⟩) (i + 1) cap)) (g + 2) 132 (.slice (some ⟨g1, 0, none⟩) (i + 1) cap) (i + 1) (List.replicate (i + 1) true) from (KC.out w1 g1 cap f x y own1).same (fun k e => Below.heap_setCell w1 _ _ k (fun e2 => by have := own_ge own1 k e; simp only at e2; omega)))
        have b1 := Lib.hid (d0.set 0 (.slice (some ⟨g1, 0, none⟩) (i + 1) cap))
        have b2 := Lib.hid (d1.set_other (a := ⟨g + 1, 0, none⟩) (by simp) (.slice (some ⟨g1, 0, none⟩) (i + 1) cap))
        have b3 := Lib.hid (show Below g w (w1.setCell ⟨g + 1, 0, none⟩ (.slice (some ⟨g1, 0, none⟩) (i + 1) cap)) from d2.setCell (by simp) _)
        clear d0 d1 d2 e0 f0 k0 k1 own1 grow1 hat KA KB KC own c0
        go_wp2
        exact ⟨⟨i + 1, _, by go_num, by omega, e1, b1, b2, b3⟩, by simp [intOf]; omega⟩
    · have h5' : ((i : Int) < 5) = False := eq_false (by omega)
      have hi5 : i = 5 := by omega
      replace hR : Hid (HookRow wr (g + 2) 132 v 5 (List.replicate 5 true)) := Lib.hid (by have := hR.out; rwa [hi5] at this)
      clear h5 hi hi5
      go_wp2_with fail
      obtain ⟨v1, rfl⟩ : ∃ v1, v1 = v := ⟨_, rfl⟩
      refine wp_named (R := fun W1 => HookRow W1 (g + 2) 132 v1 5 (List.replicate 5 true) ∧ Blk W1 (g + 1) #[v1, .slice none 0 0] 41 ∧ Blk W1 g #[.slice none 0 0, .slice none 0 0] 41 ∧ Below g w W1) ⟨hR.out, hb.out, hr.out, hB.out⟩ ?_
      rintro W1 ⟨kR, kb, kr, kB⟩
      have v1lt : Hid (∀ k, v1.ownBlock = some k → k < W1.heap.size) := Lib.hid (fun k e => by
        obtain ⟨xs, own, _⟩ := kR
        obtain ⟨A, cap, rfl, _, _, _, h4⟩ := own_open own
        obtain ⟨g1, rfl, _, hg2, _⟩ := h4 (by omega)
        simp [Value.ownBlock] at e; omega)
      have g2 : g + 2 ≤ W1.heap.size := kb.lt
      replace kR := Lib.hid kR
      replace kb := Lib.hid kb
      replace kr := Lib.hid kr
      replace kB := Lib.hid kB
      have nl := Lib.hid (nl2.out W1 W1.heap.size)
      generalize hB2 : W1.heap.size = B2 at *
      have hB2' : B2 ≤ W1.heap.size := by omega
      clear hR hb hr hB hB2 bW rW beW nl1 nl2
      go_wp2
      go_loopw [5] (fun t wr => ∃ (i : Nat) (v : Value), t = .int .i64 i ∧ i ≤ 3 ∧ Hid (HookRow wr B2 134 v i (List.replicate i true)) ∧ Hid (HookRow wr (g + 2) 132 v1 5 (List.replicate 5 true)) ∧ Hid (Blk wr (g + 1) #[v1, v] 41) ∧ Hid (Blk wr g #[.slice none 0 0, .slice none 0 0] 41) ∧ Hid (Below g w wr) ∧ B2 ≤ wr.heap.size) (fun t _ => 3 - (intOf t).toNat)
      case atStart => exact ⟨0, _, rfl, by omega, nl, kR, kb, kr, kB, hB2'⟩
      case round =>
        obtain ⟨i, v, rfl, hi, hR, hv1, hb, hr, hB, hsz⟩ := hrel
        clear nl kR kb kr kB hB2'
        by_cases h5 : i < 3
        · have h5' : (i : Int) < 3 := by omega
          obtain ⟨xs, own, hl, hx⟩ := hR.out
          have hxl : xs.length = i := by have := own.1; omega
          have hp := hb.out.lt
          have c0 : wr.cell? ⟨g + 1, 1, none⟩ = some v := hb.out.cell 1
          have KA := Lib.hid (show ∀ W0, Below wr.heap.size wr W0 → W0.cell? ⟨g + 1, 1, none⟩ = some v from fun W0 h => (h.cell (p := ⟨g + 1, 1, none⟩) hp).trans c0)
          have KB := Lib.hid (show ∀ W0 w1, Below wr.heap.size wr W0 → W0.grownBy w1 v.ownBlock → Blk w1 (g + 1) #[v1, v] 41 ∧ Blk w1 g #[.slice none 0 0, .slice none 0 0] 41 ∧ Below g w w1 ∧ HookRow w1 (g + 2) 132 v1 5 (List.replicate 5 true) from fun W0 w1 h1 h2 => by
            have e : ∀ k, k < wr.heap.size → k < B2 → w1.heap[k]? = wr.heap[k]? := fun k hk hk2 => (h2.block k (Nat.lt_of_lt_of_le hk h1.size) (fun e => by have := own_ge own k e.symm; omega)).trans (h1.block k hk)
            exact ⟨(e (g + 1) hp (by omega)).trans hb.out, (e g (by omega) (by omega)).trans hr.out, hB.out.trans ⟨h2.os.trans h1.os, h2.tape.trans h1.tape, h2.output.trans h1.output, Nat.le_trans h1.size h2.size, fun k hk => e k (by omega) (by omega)⟩, hv1.out.same (fun k hk => e k (by have := v1lt.out k hk; omega) (v1lt.out k hk))⟩)
          have KC := Lib.hid (show ∀ w1 g1 cap f x y, w1.ownsRow B2 134 1 (.slice (some ⟨g1, 0, none⟩) (i + 1) cap) (i + 1) (xs ++ [.func f x y]) → HookRow w1 B2 134 (.slice (some ⟨g1, 0, none⟩) (i + 1) cap) (i + 1) (List.replicate (i + 1) true) from fun w1 g1 cap f x y o => by
            rw [List.replicate_succ']
            exact HookRow.snoc hl hx hxl o (.inr ⟨rfl, f, x, y, rfl⟩))
          replace own := Lib.hid own
          clear hR hb hr hB hx hv1
          go_wp2_with fail
          go_region_law (first
            | (refine step_append_lies _ (by rfl) _ _ 39 (by rfl) B2 134 j0 .nilFunc 1 8 Try.underlying39 hj0 hj1 hj2 hj3 (by rfl) (by decide) v i xs (by rfl) (own_below own.out (by repeat (first | (with_reducible exact Below.refl _ _) | (with_reducible refine Below.drew ?_) | (with_reducible refine Below.alloc ?_ (by simp [more_size]; try omega) _) | (with_reducible refine Below.setCell ?_ (by simp [more_size]; try omega) _) | (with_reducible refine below_more ?_ _ (by simp [more_size]; try omega))))) ⟨wr.heap.size + 1 + 1, 0, none⟩ 1 1 [_] (by rfl) (by rfl) (cells_at _ [_] _ (by simp)) (fun u hu => by simp at hu; subst hu; rfl) (by decide) (by unfold maxLen; omega) (by omega) (by simp; omega) _ rfl ?_; intro g1 cap w1 own1 grow1 hat hlt; obtain ⟨d0, d1, d2, d3⟩ := KB.out _ w1 (by repeat (first | (with_reducible exact Below.refl _ _) | (with_reducible refine Below.drew ?_) | (with_reducible refine Below.alloc ?_ (by simp [more_size]; try omega) _) | (with_reducible refine Below.setCell ?_ (by simp [more_size]; try omega) _) | (with_reducible refine below_more ?_ _ (by simp [more_size]; try omega)))) grow1; have e0 := d0.cell 1; have f0 := d0.free 1)
            | (go_simp; go_at_call 105; refine (compr_any _ _).mono ?_; rintro e w' ⟨f, x, y, rfl, o1, o2, rfl⟩; have k0 := KA.out ((wr.alloc o1).alloc o2) (by repeat (first | (with_reducible exact Below.refl _ _) | (with_reducible refine Below.drew ?_) | (with_reducible refine Below.alloc ?_ (by simp [more_size]; try omega) _) | (with_reducible refine Below.setCell ?_ (by simp [more_size]; try omega) _) | (with_reducible refine below_more ?_ _ (by simp [more_size]; try omega)))); have k1 := KA.out (((wr.alloc o1).alloc o2).alloc (.cells #[.func f x y] 134)) (by repeat (first | (with_reducible exact Below.refl _ _) | (with_reducible refine Below.drew ?_) | (with_reducible refine Below.alloc ?_ (by simp [more_size]; try omega) _) | (with_reducible refine Below.setCell ?_ (by simp [more_size]; try omega) _) | (with_reducible refine below_more ?_ _ (by simp [more_size]; try omega))))))
          all_goals
            have e1 := Lib.hid (show HookRow (w1.setCell ⟨g + 1, 1, none⟩ (.slice (some ⟨g1, 0, none⟩) (i + 1) cap)) B2 134 (.slice (some ⟨g1, 0, none⟩) (i + 1) cap) (i + 1) (List.replicate (i + 1) true) from (KC.out w1 g1 cap f x y own1).same (fun k e => Below.heap_setCell w1 _ _ k (fun e2 => by have := own_ge own1 k e; simp only at e2; omega)))
            have e3 := Lib.hid (show HookRow (w1.setCell ⟨g + 1, 1, none⟩ (.slice (some ⟨g1, 0, none⟩) (i + 1) cap)) (g + 2) 132 v1 5 (List.replicate 5 true) from d3.same (fun k e => Below.heap_setCell w1 _ _ k (fun e2 => by
              obtain ⟨xs, own, _⟩ := d3
              have := own_ge own k e; simp only at e2; omega)))
            have b1 := Lib.hid (d0.set 1 (.slice (some ⟨g1, 0, none⟩) (i + 1) cap))
            have b2 := Lib.hid (d1.set_other (a := ⟨g + 1, 1, none⟩) (by simp) (.slice (some ⟨g1, 0, none⟩) (i + 1) cap))
            have b3 := Lib.hid (show Below g w (w1.setCell ⟨g + 1, 1, none⟩ (.slice (some ⟨g1, 0, none⟩) (i + 1) cap)) from d2.setCell (by simp) _)
            have b4 : B2 ≤ (w1.setCell ⟨g + 1, 1, none⟩ (.slice (some ⟨g1, 0, none⟩) (i + 1) cap)).heap.size := by have := grow1.size; simp [World.setCell] at *; omega
            clear d0 d1 d2 d3 e0 f0 k0 k1 own1 grow1 hat KA KB KC own c0
            go_wp2
            exact ⟨⟨i + 1, _, by go_num, by omega, e1, e3, b1, b2, b3, b4⟩, by simp [intOf]; omega⟩
        · have h5' : ((i : Int) < 3) = False := eq_false (by omega)
          have hi3' : i = 3 := by omega
          replace hR : Hid (HookRow wr B2 134 v 3 (List.replicate 3 true)) := Lib.hid (by have := hR.out; rwa [hi3'] at this)
          clear hi3'
          obtain ⟨A1, p1, rfl⟩ : ∃ A cap, v1 = .slice A 5 cap := by
            obtain ⟨A, cap, e, _⟩ := hv1.out.hooks
            exact ⟨A, cap, by rw [e]; rfl⟩
          obtain ⟨A2, p2, rfl⟩ : ∃ A cap, v = .slice A 3 cap := by
            obtain ⟨A, cap, e, _⟩ := hR.out.hooks
            exact ⟨A, cap, by rw [e]; rfl⟩
          have hp := hb.out.lt
          have c0 : wr.cell? ⟨g + 1, 0, none⟩ = some (.slice A1 5 p1) := hb.out.cell 0
          have c1 : wr.cell? ⟨g + 1, 1, none⟩ = some (.slice A2 3 p2) := hb.out.cell 1
          have r0 : wr.cell? ⟨g, 0, none⟩ = some (.slice none 0 0) := hr.out.cell 0
          have r1 : wr.cell? ⟨g, 1, none⟩ = some (.slice none 0 0) := hr.out.cell 1
          have s0 := World.cell?_setCell_same wr ⟨g, 0, none⟩ (.slice A1 5 p1) r0
          have s1 := World.cell?_setCell_same (wr.setCell ⟨g, 0, none⟩ (.slice A1 5 p1)) ⟨g, 1, none⟩ (.slice A2 3 p2) ((World.cell?_setCell_other wr ⟨g, 0, none⟩ ⟨g, 1, none⟩ (.slice A1 5 p1) (by simp)).trans r1)
          have q0 := hr.out.free 0
          have q1 := hr.out.free 1
          have fin := Lib.hid (show HookRow ((wr.setCell ⟨g, 0, none⟩ (.slice A1 5 p1)).setCell ⟨g, 1, none⟩ (.slice A2 3 p2)) 0 132 (.slice A1 5 p1) 5 (List.replicate 5 true) ∧ HookRow ((wr.setCell ⟨g, 0, none⟩ (.slice A1 5 p1)).setCell ⟨g, 1, none⟩ (.slice A2 3 p2)) 0 134 (.slice A2 3 p2) 3 (List.replicate 3 true) ∧ Below g w ((wr.setCell ⟨g, 0, none⟩ (.slice A1 5 p1)).setCell ⟨g, 1, none⟩ (.slice A2 3 p2)) from by
            have hs : ∀ k, k ≠ g → ((wr.setCell ⟨g, 0, none⟩ (.slice A1 5 p1)).setCell ⟨g, 1, none⟩ (.slice A2 3 p2)).heap[k]? = wr.heap[k]? := fun k hk => (Below.heap_setCell _ _ _ k hk).trans (Below.heap_setCell _ _ _ k hk)
            refine ⟨(hv1.out.same (fun k e => hs k (fun e2 => ?_))).base, (hR.out.same (fun k e => hs k (fun e2 => ?_))).base, (hB.out.setCell (by simp) _).setCell (by simp) _⟩
            · obtain ⟨xs, own, _⟩ := hv1.out
              have := own_ge own k e; omega
            · obtain ⟨xs, own, _⟩ := hR.out
              have := own_ge own k e; omega)
          clear hR hv1 hb hr hB h5 hi
          go_wp2
          exact bodyPost_ret (v := .agg #[.slice A1 5 p1, .slice A2 3 p2]) (by simp [results, Try.results82, go_sem, s0, s1]; done) rfl ⟨_, _, rfl, by rw [hg.out]; exact fin.out⟩
end Go.Proofs.Ytilpgojkbgbinaa
