/- The statement's rows of hooks, of which some are there. -/
import Derived.Test.YtilpgojkbgbinaaHooks
import Derived.Test.YtilpgojkbgbinaaRdef
set_option maxRecDepth 100000
set_option linter.unusedVariables false
set_option linter.unusedSimpArgs false
namespace Go.Proofs.Ytilpgojkbgbinaa
open Go.RowKit
attribute [local go_sem] run_frombits run_tobits more_more more_drew more_drewN more_size more_cell more_frozen run_store_float lt_c1 le_c1 lt_s1 le_s1 lt_c2 le_c2 lt_s2 le_s2 lt_c3 le_c3 lt_s3 le_s3 lt_c4 le_c4 lt_s4 le_s4 lt_c5 le_c5 lt_s5 le_s5 lt_c6 le_c6 lt_s6 le_s6 lt_c7 le_c7 lt_s7 le_s7 lt_c8 le_c8 lt_s8 le_s8 lt_c9 le_c9 lt_s9 le_s9 lt_c10 le_c10 lt_s10 le_s10 lt_c11 le_c11 lt_s11 le_s11 lt_c12 le_c12 lt_s12 le_s12 le_c0
theorem own_someH {w : World} {base : Nat} {e : TypeId} {s n : Nat} {v : Value} {xs : List Value} (h : w.ownsRow base e s v n xs) (hn : 0 < n) : ∃ g cap, v = .slice (some ⟨g, 0, none⟩) n cap ∧ base ≤ g := by
  rcases h.2 with ⟨_, e⟩ | ⟨g, cap, cur, rfl, hb, _⟩
  · omega
  · exact ⟨g, cap, rfl, hb⟩
set_option maxHeartbeats 4000000 in
/-- the rows of hooks that the statement makes -/
theorem lawhooks (A B : Option Addr) (ca cb : Nat) (ex co : List Bool) (h1 : ex.length ≤ 8) (h2 : co.length ≤ 8) (w : World) (ha : BoolsIn w A ex) (hb : BoolsIn w B co) :
    Calls Try.prog 29 #[.slice A ex.length ca, .slice B co.length cb] w fun e w' => ∃ E1 c1 E2 c2, e = .returned (.agg #[.slice E1 ex.length c1, .slice E2 co.length c2]) ∧ HooksIn w' E1 ex ∧ HooksIn w' E2 co ∧ Below w.heap.size w w' := by
  obtain ⟨i0, hi0, hi1, hi2, hi3⟩ := info_parts info_ext
  obtain ⟨j0, hj0, hj1, hj2, hj3⟩ := info_parts info_cmp
  have nl1 := Lib.hid (fun w base => hookrow_nil w base 132)
  have nl2 := Lib.hid (fun w base => hookrow_nil w base 134)
  replace ha := Lib.hid ha
  replace hb := Lib.hid hb
  go_enter Try.func29, Try.ntmps29
  go_wp2_with fail
  refine (allhooks _).mono ?_
  rintro e w1 ⟨v1, v2, rfl, k1, k2, kB⟩
  obtain ⟨A1, p1, rfl, f1, z1⟩ := k1.hooks
  obtain ⟨A2, p2, rfl, f2, z2⟩ := k2.hooks
  obtain ⟨g1, rfl, hg1, _⟩ := z1 (by omega)
  obtain ⟨g2, rfl, hg2, _⟩ := z2 (by omega)
  obtain ⟨_, _, e, _, y1⟩ := f1 0 (by simp)
  obtain ⟨u1, cu1, hu1⟩ := y1 0 (by simp)
  injection e with e; injection e with e e0; subst e e0
  obtain ⟨_, _, e, _, y2⟩ := f2 0 (by simp)
  obtain ⟨u2, cu2, hu2⟩ := y2 0 (by simp)
  injection e with e; injection e with e e0; subst e e0
  rcases hu1 with ⟨hu, _⟩ | ⟨_, ff, fx, fy, rfl⟩
  · simp at hu
  rcases hu2 with ⟨hu, _⟩ | ⟨_, gf, gx, gy, rfl⟩
  · simp at hu
  have l5 : (List.replicate 5 true).length = 5 := rfl
  have l3 : (List.replicate 3 true).length = 3 := rfl
  rw [l5, l3]
  have r0 : Hid (Blk w1 w.heap.size #[.slice none 0 0, .slice none 0 0] 41) := Lib.hid ((kB.block w.heap.size (by simp)).trans (Blk.new w _ _ rfl))
  have kB2 : Hid (Below w.heap.size w w1) := Lib.hid ((show Below w.heap.size w (w.alloc (.cells #[.slice none 0 0, .slice none 0 0] 41)) from (by repeat (first | (with_reducible exact Below.refl _ _) | (with_reducible refine Below.drew ?_) | (with_reducible refine Below.alloc ?_ (by simp [more_size]; try omega) _) | (with_reducible refine Below.setCell ?_ (by simp [more_size]; try omega) _) | (with_reducible refine below_more ?_ _ (by simp [more_size]; try omega))))).trans (kB.mono (by simp)))
  have hw1 : w.heap.size < w1.heap.size := r0.out.lt
  clear f1 f2 y1 y2 k1 k2 kB l5 l3 z1 z2
  have tk : Hid (∀ (l : List Bool) (i : Nat) (h : i < l.length), l.take (i + 1) = l.take i ++ [l[i]]) := Lib.hid (fun l i h => List.take_succ_eq_append_getElem h)
  go_wp2
  refine wp_named (R := fun W => Blk W w1.heap.size #[.slice (some ⟨g1, 0, none⟩) 5 p1, .slice (some ⟨g2, 0, none⟩) 3 p2] 41 ∧ Blk W (w1.heap.size + 1) #[.slice none 0 0, .slice none 0 0] 41 ∧ Below w1.heap.size w1 W) ⟨?_, Blk.new _ _ _ (by simp), (by repeat (first | (with_reducible exact Below.refl _ _) | (with_reducible refine Below.drew ?_) | (with_reducible refine Below.alloc ?_ (by simp [more_size]; try omega) _) | (with_reducible refine Below.setCell ?_ (by simp [more_size]; try omega) _) | (with_reducible refine below_more ?_ _ (by simp [more_size]; try omega))))⟩ ?_
  · first | exact (Blk.new _ _ _ rfl).alloc _ | (refine Blk.alloc ?_ _; exact ((Blk.new _ _ _ rfl).set 0 _).set 1 _)
  rintro W ⟨b5, b6, bW⟩
  replace b5 := Lib.hid b5
  replace b6 := Lib.hid b6
  replace bW := Lib.hid bW
  have FXa := Lib.hid (show ∀ wr, Below w1.heap.size w1 wr → wr.cell? ⟨g1, 0, none⟩ = some (.func ff fx fy) from fun wr h => (h.cell (p := ⟨g1, 0, none⟩) hg1).trans cu1)
  have FXb := Lib.hid (show ∀ wr, Below w1.heap.size w1 wr → wr.cell? ⟨g2, 0, none⟩ = some (.func gf gx gy) from fun wr h => (h.cell (p := ⟨g2, 0, none⟩) hg2).trans cu2)
  have BA : ∀ (A : Option Addr) (l : List Bool), BoolsIn w A l → ∀ wr, Below w1.heap.size w1 wr → ∀ i (h : i < l.length), ∃ b off, A = some ⟨b, off, none⟩ ∧ wr.cell? ⟨b, off + i, none⟩ = some (.bool l[i]) := fun A l h wr hb i hi => by
    obtain ⟨b, off, e, hbl, hc⟩ := h i hi
    have := hc i hi 0 _ rfl
    rw [Nat.add_zero, Nat.mul_one] at this
    exact ⟨b, off, e, (hb.cell (p := ⟨b, off + i, none⟩) (by simp only; omega)).trans ((kB2.out.cell (p := ⟨b, off + i, none⟩) hbl).trans this)⟩
  have FA := Lib.hid (BA A ex ha.out)
  have FB := Lib.hid (BA B co hb.out)
  have rW : Hid (∀ wr, Below w1.heap.size w1 wr → Blk wr w.heap.size #[.slice none 0 0, .slice none 0 0] 41 ∧ Below w.heap.size w wr) := Lib.hid (fun wr h => ⟨(h.block _ hw1).trans r0.out, kB2.out.trans (h.mono (Nat.le_of_lt hw1))⟩)
  clear BA cu1 cu2 hg1 hg2 ha hb r0 kB2
  generalize hq : w1.heap.size = Bq at *
  generalize hg : w.heap.size = g at *
  replace hq := Lib.hid hq
  replace hg := Lib.hid hg
  have sz0 : Bq + 2 ≤ W.heap.size := b6.out.lt
  go_wp2
  go_loopw [7, 8] (fun t7 _ wr => ∃ (i : Nat) (v : Value), t7 = .int .i64 i ∧ i ≤ ex.length ∧ Hid (HookRow wr (Bq + 2) 132 v i (ex.take i)) ∧ Hid (Blk wr (Bq + 1) #[v, .slice none 0 0] 41) ∧ Hid (Blk wr Bq #[.slice (some ⟨g1, 0, none⟩) 5 p1, .slice (some ⟨g2, 0, none⟩) 3 p2] 41) ∧ Hid (Below Bq w1 wr) ∧ Bq + 2 ≤ wr.heap.size) (fun t7 _ _ => ex.length - (intOf t7).toNat)
  case atStart => exact ⟨0, _, rfl, by omega, Lib.hid (nl1.out _ _), b6, b5, bW, sz0⟩
  case round =>
    obtain ⟨i, v, rfl, hi, hR, hb, hr, hB, hsz⟩ := hrel
    clear nl1 b6 b5 bW sz0
    by_cases h5 : i < ex.length
    · have h5' : (i : Int) < (ex.length : Int) := by omega
      obtain ⟨xs, own, hl, hx⟩ := hR.out
      have hxl : xs.length = i := by have := own.1; omega
      have hp := hb.out.lt
      have c0 : wr.cell? ⟨Bq + 1, 0, none⟩ = some v := hb.out.cell 0
      have c5 : wr.cell? ⟨Bq, 0, none⟩ = some (.slice (some ⟨g1, 0, none⟩) 5 p1) := hr.out.cell 0
      have cf := FXa.out wr hB.out
      obtain ⟨b, off, rfl, cb⟩ := FA.out wr hB.out i h5
      have tki := tk.out ex i h5
      have KB := Lib.hid (show ∀ W0 w3, Below wr.heap.size wr W0 → W0.grownBy w3 v.ownBlock → Blk w3 (Bq + 1) #[v, .slice none 0 0] 41 ∧ Blk w3 Bq #[.slice (some ⟨g1, 0, none⟩) 5 p1, .slice (some ⟨g2, 0, none⟩) 3 p2] 41 ∧ Below Bq w1 w3 from fun W0 w3 h1 h2 => by
        have e : ∀ k, k < wr.heap.size → k < Bq + 2 → w3.heap[k]? = wr.heap[k]? := fun k hk hk2 => (h2.block k (Nat.lt_of_lt_of_le hk h1.size) (fun e => by have := own_ge own k e.symm; omega)).trans (h1.block k hk)
        exact ⟨(e (Bq + 1) hp (by omega)).trans hb.out, (e Bq (by omega) (by omega)).trans hr.out, hB.out.trans ⟨h2.os.trans h1.os, h2.tape.trans h1.tape, h2.output.trans h1.output, Nat.le_trans h1.size h2.size, fun k hk => e k (by omega) (by omega)⟩⟩)
      have KC := Lib.hid (show ∀ w3 g3 cap u, w3.ownsRow (Bq + 2) 132 1 (.slice (some ⟨g3, 0, none⟩) (i + 1) cap) (i + 1) (xs ++ [u]) → HookIs u ex[i] → HookRow w3 (Bq + 2) 132 (.slice (some ⟨g3, 0, none⟩) (i + 1) cap) (i + 1) (ex.take (i + 1)) from fun w3 g3 cap u o hu => by
        rw [tki]
        exact HookRow.snoc hl hx hxl o hu)
      replace own := Lib.hid own
      clear hR hb hr hB hx tki
      generalize ex[i] = bi at *
      cases bi
      all_goals
        go_wp2_with (first
          | (at_builtin; refine wpList_append_own_at _ rfl _ _ 38 rfl (Bq + 2) 132 i0 .nilFunc 1 8 Try.underlying38 hi0 hi1 hi2 hi3 rfl (by decide) v i xs rfl (own_below own.out (by repeat (first | (with_reducible exact Below.refl _ _) | (with_reducible refine Below.drew ?_) | (with_reducible refine Below.alloc ?_ (by simp [more_size]; try omega) _) | (with_reducible refine Below.setCell ?_ (by simp [more_size]; try omega) _) | (with_reducible refine below_more ?_ _ (by simp [more_size]; try omega))))) _ 1 1 [_] rfl rfl (cells_at _ [_] _ (by simp)) (fun u hu => by simp at hu; subst hu; rfl) (by unfold maxLen; omega) (by omega) (by simp; omega) ?_; intro v3 w3 own3 grow3 _ _; obtain ⟨g3, cap3, rfl, hg3⟩ := own_someH own3 (by omega); obtain ⟨d0, d1, d2⟩ := KB.out _ w3 (by repeat (first | (with_reducible exact Below.refl _ _) | (with_reducible refine Below.drew ?_) | (with_reducible refine Below.alloc ?_ (by simp [more_size]; try omega) _) | (with_reducible refine Below.setCell ?_ (by simp [more_size]; try omega) _) | (with_reducible refine below_more ?_ _ (by simp [more_size]; try omega)))) grow3; have e0 := d0.cell 0; have f0 := d0.free 0; have e1 := Lib.hid (show HookRow (w3.setCell ⟨Bq + 1, 0, none⟩ (.slice (some ⟨g3, 0, none⟩) (i + 1) cap3)) (Bq + 2) 132 (.slice (some ⟨g3, 0, none⟩) (i + 1) cap3) (i + 1) (ex.take (i + 1)) from (KC.out w3 g3 cap3 _ own3 (by first | exact .inl ⟨rfl, rfl⟩ | exact .inr ⟨rfl, _, _, _, rfl⟩)).same (fun k e => Below.heap_setCell w3 _ _ k (fun e2 => by have := own_ge own3 k e; simp only at e2; omega))))
          | fail)
        · have b1 := Lib.hid (d0.set 0 (.slice (some ⟨g3, 0, none⟩) (i + 1) cap3))
          have b2 := Lib.hid (d1.set_other (a := ⟨Bq + 1, 0, none⟩) (by simp) (.slice (some ⟨g3, 0, none⟩) (i + 1) cap3))
          have b3 := Lib.hid (show Below Bq w1 (w3.setCell ⟨Bq + 1, 0, none⟩ (.slice (some ⟨g3, 0, none⟩) (i + 1) cap3)) from d2.setCell (by simp) _)
          have b4 : Bq + 2 ≤ (w3.setCell ⟨Bq + 1, 0, none⟩ (.slice (some ⟨g3, 0, none⟩) (i + 1) cap3)).heap.size := by have := grow3.size; simp [World.setCell] at *; omega
          clear d0 d1 d2 own3 grow3 KB KC own c0 c5 cf cb
          exact ⟨⟨i + 1, _, by go_num, by omega, e1, b1, b2, b3, b4⟩, by simp [intOf]; omega⟩
    · have h5' : ((i : Int) < (ex.length : Int)) = False := eq_false (by omega)
      have hie : i = ex.length := by omega
      replace hR : Hid (HookRow wr (Bq + 2) 132 v ex.length ex) := Lib.hid (by have := hR.out; rw [hie, List.take_length] at this; exact this)
      clear h5 hi hie
      go_wp2_with fail
      obtain ⟨v1, rfl⟩ : ∃ v1, v1 = v := ⟨_, rfl⟩
      refine wp_named (R := fun W1 => HookRow W1 (Bq + 2) 132 v1 ex.length ex ∧ Blk W1 (Bq + 1) #[v1, .slice none 0 0] 41 ∧ Blk W1 Bq #[.slice (some ⟨g1, 0, none⟩) 5 p1, .slice (some ⟨g2, 0, none⟩) 3 p2] 41 ∧ Below Bq w1 W1) ⟨hR.out, hb.out, hr.out, hB.out⟩ ?_
      rintro W1 ⟨kR, kb, kr, kB⟩
      have v1lt : Hid (∀ k, v1.ownBlock = some k → k < W1.heap.size) := Lib.hid (fun k e => by
        obtain ⟨xs, own, _⟩ := kR
        rcases own.2 with ⟨rfl, _⟩ | ⟨g3, cap, cur, rfl, _, hgg, _⟩
        · simp [Value.ownBlock] at e
        · simp [Value.ownBlock] at e; subst e; exact (Array.getElem?_eq_some_iff.1 hgg).1)
      have gB2 : Bq + 2 ≤ W1.heap.size := kb.lt
      replace kR := Lib.hid kR
      replace kb := Lib.hid kb
      replace kr := Lib.hid kr
      replace kB := Lib.hid kB
      replace nl2 := Lib.hid (nl2.out W1 W1.heap.size)
      generalize hB2 : W1.heap.size = B2 at *
      have hB2' : B2 ≤ W1.heap.size := by omega
      clear hR hb hr hB hB2
      go_wp2
      go_loopw [9, 10] (fun t7 _ wr => ∃ (i : Nat) (v : Value), t7 = .int .i64 i ∧ i ≤ co.length ∧ Hid (HookRow wr B2 134 v i (co.take i)) ∧ Hid (HookRow wr (Bq + 2) 132 v1 ex.length ex) ∧ Hid (Blk wr (Bq + 1) #[v1, v] 41) ∧ Hid (Blk wr Bq #[.slice (some ⟨g1, 0, none⟩) 5 p1, .slice (some ⟨g2, 0, none⟩) 3 p2] 41) ∧ Hid (Below Bq w1 wr) ∧ B2 ≤ wr.heap.size) (fun t7 _ _ => co.length - (intOf t7).toNat)
      case atStart => exact ⟨0, _, rfl, by omega, Lib.hid (nl2), kR, kb, kr, kB, hB2'⟩
      case round =>
        obtain ⟨i, v, rfl, hi, hR, hv1, hb, hr, hB, hsz⟩ := hrel
        clear nl2 kR kb kr kB hB2'
        by_cases h5 : i < co.length
        · have h5' : (i : Int) < (co.length : Int) := by omega
          obtain ⟨xs, own, hl, hx⟩ := hR.out
          have hxl : xs.length = i := by have := own.1; omega
          have hp := hb.out.lt
          have c0 : wr.cell? ⟨Bq + 1, 1, none⟩ = some v := hb.out.cell 1
          have c5 : wr.cell? ⟨Bq, 1, none⟩ = some (.slice (some ⟨g2, 0, none⟩) 3 p2) := hr.out.cell 1
          have cf := FXb.out wr hB.out
          obtain ⟨b, off, rfl, cb⟩ := FB.out wr hB.out i h5
          have tki := tk.out co i h5
          have KB := Lib.hid (show ∀ W0 w3, Below wr.heap.size wr W0 → W0.grownBy w3 v.ownBlock → Blk w3 (Bq + 1) #[v1, v] 41 ∧ Blk w3 Bq #[.slice (some ⟨g1, 0, none⟩) 5 p1, .slice (some ⟨g2, 0, none⟩) 3 p2] 41 ∧ Below Bq w1 w3 ∧ HookRow w3 (Bq + 2) 132 v1 ex.length ex from fun W0 w3 h1 h2 => by
            have e : ∀ k, k < wr.heap.size → k < B2 → w3.heap[k]? = wr.heap[k]? := fun k hk hk2 => (h2.block k (Nat.lt_of_lt_of_le hk h1.size) (fun e => by have := own_ge own k e.symm; omega)).trans (h1.block k hk)
            exact ⟨(e (Bq + 1) hp (by omega)).trans hb.out, (e Bq (by omega) (by omega)).trans hr.out, hB.out.trans ⟨h2.os.trans h1.os, h2.tape.trans h1.tape, h2.output.trans h1.output, Nat.le_trans h1.size h2.size, fun k hk => e k (by omega) (by omega)⟩, hv1.out.same (fun k hk => e k (by have := v1lt.out k hk; omega) (v1lt.out k hk))⟩)
          have KC := Lib.hid (show ∀ w3 g3 cap u, w3.ownsRow B2 134 1 (.slice (some ⟨g3, 0, none⟩) (i + 1) cap) (i + 1) (xs ++ [u]) → HookIs u co[i] → HookRow w3 B2 134 (.slice (some ⟨g3, 0, none⟩) (i + 1) cap) (i + 1) (co.take (i + 1)) from fun w3 g3 cap u o hu => by
            rw [tki]
            exact HookRow.snoc hl hx hxl o hu)
          replace own := Lib.hid own
          clear hR hb hr hB hx hv1 tki
          generalize co[i] = bi at *
          cases bi
          all_goals
            go_wp2_with (first
              | (at_builtin; refine wpList_append_own_at _ rfl _ _ 39 rfl B2 134 j0 .nilFunc 1 8 Try.underlying39 hj0 hj1 hj2 hj3 rfl (by decide) v i xs rfl (own_below own.out (by repeat (first | (with_reducible exact Below.refl _ _) | (with_reducible refine Below.drew ?_) | (with_reducible refine Below.alloc ?_ (by simp [more_size]; try omega) _) | (with_reducible refine Below.setCell ?_ (by simp [more_size]; try omega) _) | (with_reducible refine below_more ?_ _ (by simp [more_size]; try omega))))) _ 1 1 [_] rfl rfl (cells_at _ [_] _ (by simp)) (fun u hu => by simp at hu; subst hu; rfl) (by unfold maxLen; omega) (by omega) (by simp; omega) ?_; intro v3 w3 own3 grow3 _ _; obtain ⟨g3, cap3, rfl, hg3⟩ := own_someH own3 (by omega); obtain ⟨d0, d1, d2, d3⟩ := KB.out _ w3 (by repeat (first | (with_reducible exact Below.refl _ _) | (with_reducible refine Below.drew ?_) | (with_reducible refine Below.alloc ?_ (by simp [more_size]; try omega) _) | (with_reducible refine Below.setCell ?_ (by simp [more_size]; try omega) _) | (with_reducible refine below_more ?_ _ (by simp [more_size]; try omega)))) grow3; have e0 := d0.cell 1; have f0 := d0.free 1; have e1 := Lib.hid (show HookRow (w3.setCell ⟨Bq + 1, 1, none⟩ (.slice (some ⟨g3, 0, none⟩) (i + 1) cap3)) B2 134 (.slice (some ⟨g3, 0, none⟩) (i + 1) cap3) (i + 1) (co.take (i + 1)) from (KC.out w3 g3 cap3 _ own3 (by first | exact .inl ⟨rfl, rfl⟩ | exact .inr ⟨rfl, _, _, _, rfl⟩)).same (fun k e => Below.heap_setCell w3 _ _ k (fun e2 => by have := own_ge own3 k e; simp only at e2; omega))))
              | fail)
            · have b1 := Lib.hid (d0.set 1 (.slice (some ⟨g3, 0, none⟩) (i + 1) cap3))
              have b2 := Lib.hid (d1.set_other (a := ⟨Bq + 1, 1, none⟩) (by simp) (.slice (some ⟨g3, 0, none⟩) (i + 1) cap3))
              have b3 := Lib.hid (show Below Bq w1 (w3.setCell ⟨Bq + 1, 1, none⟩ (.slice (some ⟨g3, 0, none⟩) (i + 1) cap3)) from d2.setCell (by simp) _)
              have b4 : B2 ≤ (w3.setCell ⟨Bq + 1, 1, none⟩ (.slice (some ⟨g3, 0, none⟩) (i + 1) cap3)).heap.size := by have := grow3.size; simp [World.setCell] at *; omega
              have e3 := Lib.hid (show HookRow (w3.setCell ⟨Bq + 1, 1, none⟩ (.slice (some ⟨g3, 0, none⟩) (i + 1) cap3)) (Bq + 2) 132 v1 ex.length ex from d3.same (fun k e => Below.heap_setCell w3 _ _ k (fun e2 => by
                obtain ⟨xs, own, _⟩ := d3
                have := own_ge own k e; simp only at e2; omega)))
              clear d0 d1 d2 own3 grow3 KB KC own c0 c5 cf cb
              exact ⟨⟨i + 1, _, by go_num, by omega, e1, e3, b1, b2, b3, b4⟩, by simp [intOf]; omega⟩
        · have h5' : ((i : Int) < (co.length : Int)) = False := eq_false (by omega)
          have hie : i = co.length := by omega
          replace hR : Hid (HookRow wr B2 134 v co.length co) := Lib.hid (by have := hR.out; rw [hie, List.take_length] at this; exact this)
          clear h5 hi hie
          obtain ⟨E1, q1, e1, _⟩ := hv1.out.hooks
          obtain ⟨E2, q2, e2, _⟩ := hR.out.hooks
          subst e1 e2
          have hp := hb.out.lt
          obtain ⟨rr, rb⟩ := rW.out wr hB.out
          have c0 : wr.cell? ⟨Bq + 1, 0, none⟩ = some (.slice E1 ex.length q1) := hb.out.cell 0
          have c1 : wr.cell? ⟨Bq + 1, 1, none⟩ = some (.slice E2 co.length q2) := hb.out.cell 1
          have r0 : wr.cell? ⟨g, 0, none⟩ = some (.slice none 0 0) := rr.cell 0
          have r1 : wr.cell? ⟨g, 1, none⟩ = some (.slice none 0 0) := rr.cell 1
          have s0 := World.cell?_setCell_same wr ⟨g, 0, none⟩ (.slice E1 ex.length q1) r0
          have s1 := World.cell?_setCell_same (wr.setCell ⟨g, 0, none⟩ (.slice E1 ex.length q1)) ⟨g, 1, none⟩ (.slice E2 co.length q2) ((World.cell?_setCell_other wr ⟨g, 0, none⟩ ⟨g, 1, none⟩ (.slice E1 ex.length q1) (by simp)).trans r1)
          have f0 := rr.free 0
          have f1 := rr.free 1
          have fin := Lib.hid (show HooksIn ((wr.setCell ⟨g, 0, none⟩ (.slice E1 ex.length q1)).setCell ⟨g, 1, none⟩ (.slice E2 co.length q2)) E1 ex ∧ HooksIn ((wr.setCell ⟨g, 0, none⟩ (.slice E1 ex.length q1)).setCell ⟨g, 1, none⟩ (.slice E2 co.length q2)) E2 co ∧ Below g w ((wr.setCell ⟨g, 0, none⟩ (.slice E1 ex.length q1)).setCell ⟨g, 1, none⟩ (.slice E2 co.length q2)) from by
            have hs : ∀ k, k ≠ g → ((wr.setCell ⟨g, 0, none⟩ (.slice E1 ex.length q1)).setCell ⟨g, 1, none⟩ (.slice E2 co.length q2)).heap[k]? = wr.heap[k]? := fun k hk => (Below.heap_setCell _ _ _ k hk).trans (Below.heap_setCell _ _ _ k hk)
            refine ⟨?_, ?_, (rb.setCell (by simp) _).setCell (by simp) _⟩
            · obtain ⟨_, _, e, h, _⟩ := (hv1.out.same (fun k e => hs k (fun e2 => by
                obtain ⟨xs, own, _⟩ := hv1.out
                have := own_ge own k e; omega))).hooks
              injection e with e; subst e; exact h
            · obtain ⟨_, _, e, h, _⟩ := (hR.out.same (fun k e => hs k (fun e2 => by
                obtain ⟨xs, own, _⟩ := hR.out
                have := own_ge own k e; omega))).hooks
              injection e with e; subst e; exact h)
          clear hR hv1 hb hr hB rr rb
          go_wp2
          exact bodyPost_ret (v := .agg #[.slice E1 ex.length q1, .slice E2 co.length q2]) (by simp [results, Try.results29, go_sem, s0, s1]; done) rfl ⟨_, _, _, _, rfl, by rw [hg.out]; exact fin.out⟩
end Go.Proofs.Ytilpgojkbgbinaa
