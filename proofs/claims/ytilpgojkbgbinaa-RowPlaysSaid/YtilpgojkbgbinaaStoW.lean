/- Package row: what its methods do to a store's memory. -/
import Derived.Test.YtilpgojkbgbinaaSto
import Derived.RegionTactic
import Derived.Deep.RegionLaw
set_option maxRecDepth 100000
set_option linter.unusedVariables false
set_option linter.unusedSimpArgs false
namespace Go.Proofs.Ytilpgojkbgbinaa
open Go.RowKit
open Go.Maps (has size Keyed int_keyed keyOf_int_mk)
attribute [local go_sem] run_frombits run_tobits more_more more_drew more_drewN more_size more_cell more_frozen run_store_float lt_c1 le_c1 lt_s1 le_s1 lt_c2 le_c2 lt_s2 le_s2 lt_c3 le_c3 lt_s3 le_s3 lt_c4 le_c4 lt_s4 le_s4 lt_c5 le_c5 lt_s5 le_s5 lt_c6 le_c6 lt_s6 le_s6 lt_c7 le_c7 lt_s7 le_s7 lt_c8 le_c8 lt_s8 le_s8 lt_c9 le_c9 lt_s9 le_s9 lt_c10 le_c10 lt_s10 le_s10 lt_c11 le_c11 lt_s11 le_s11 lt_c12 le_c12 lt_s12 le_s12 le_c0
theorem keyI : Keyed Try.prog 2 := int_keyed Try.underlying2
theorem zeroI (w : World) : (zeroValue 3).run Try.prog w = .ok (.int .i64 0) w := by kernel_rfl
theorem num9_any (n : Int) (w : World) : Calls Try.prog 35 #[.int .i64 n] w fun e w' => e = .returned (.slice (some ⟨w.heap.size, 0, none⟩) 1 1) ∧ w' = w.alloc (.cells #[.int .i64 1, .int .i64 n, .string ⟨#[]⟩, .float .f64 0] 103) := by
  go_enter Try.func35, Try.ntmps35
  go_wp2
  go_ret
  exact ⟨rfl, rfl⟩
set_option maxHeartbeats 1000000 in
theorem new_mem (room : Int) (w : World) : Calls Try.prog 33 #[.int .i64 room] w fun e w' => ∃ p F M pf, e = .returned (.pointer (some ⟨p, 0, none⟩)) ∧ SM w' F p none 0 [] M pf none [] (.map []) (min (max room 0) 200) 1 0 ∧ Below w.heap.size w w' ∧ ∀ k, F k → w.heap.size ≤ k := by
  have hmm := @run_makeMap Try.prog
  go_enter Try.func33, Try.ntmps33
  go_wp2_with fail
  refine (newfree_any _).mono ?_
  rintro e w1 ⟨rfl, hF, bel⟩
  have hF2 : FreeAt w1 (w.heap.size + 1) none [] := by have := hF; simpa using this
  have hw1 : w.heap.size + 1 < w1.heap.size := hF2.pLt
  have hbel : Below w.heap.size w w1 := (show Below w.heap.size w (w.alloc (.map #[] 0)) from (by repeat (first | (with_reducible exact Below.refl _ _) | (with_reducible refine Below.drew ?_) | (with_reducible refine Below.alloc ?_ (by simp [more_size]; try omega) _) | (with_reducible refine Below.setCell ?_ (by simp [more_size]; try omega) _) | (with_reducible refine below_more ?_ _ (by simp [more_size]; try omega))))).trans (bel.mono (by simp))
  have hmap : w1.ownsMap Try.prog 2 (plainElem (H := Unit) Try.prog 3) w.heap.size 0 (.map []) := map_same (World.ownsMap_made w _ _ _) (bel.block w.heap.size (by simp))
  have mk : ∀ k : Int, SM (w1.alloc (.cells #[.slice none 0 0, .map (some w.heap.size), .pointer (some ⟨w.heap.size + 1, 0, none⟩), .int .i64 k, .int .i64 1, .int .i64 0] 138)) (fun j => j = w1.heap.size ∨ j = w.heap.size ∨ j = w.heap.size + 1) w1.heap.size none 0 [] w.heap.size (w.heap.size + 1) none [] (.map []) k 1 0 ∧ Below w.heap.size w (w1.alloc (.cells #[.slice none 0 0, .map (some w.heap.size), .pointer (some ⟨w.heap.size + 1, 0, none⟩), .int .i64 k, .int .i64 1, .int .i64 0] 138)) ∧ ∀ j, (fun j => j = w1.heap.size ∨ j = w.heap.size ∨ j = w.heap.size + 1) j → w.heap.size ≤ j := fun k => by
    refine ⟨⟨Blk.new _ _ _ rfl, World.ownsRow_nil _ _ _ _, hmap.alloc _, hF2.same (Below.heap_alloc _ _ _ hw1) (fun g e => by cases e), fun s hs => (by cases hs), ?_, ?_, (by omega), (by omega), (by omega), (by simp), (by simp), (by simp [slotsV, Value.ownBlock]), (by simp [slotsV, Value.ownBlock]), (by simp [slotsV, Value.ownBlock]), fun g e => (by simp [slotsV, Value.ownBlock] at e)⟩, hbel.alloc (by omega) _, ?_⟩
    · rintro j (q | q | q | q | q)
      · exact .inl q
      · simp [slotsV, Value.ownBlock] at q
      · exact .inr (.inl q)
      · exact .inr (.inr q)
      · cases q
    · rintro j (q | q | q) <;> simp <;> omega
    · rintro j (q | q | q) <;> omega
  replace mk := Lib.hid mk
  clear hF hF2 bel hbel hmap
  go_wp2
  · go_ret
    obtain ⟨z1, z2, z3⟩ := mk.out 0
    exact ⟨_, rfl, _, ⟨_, _, (by rw [show min (max room 0) 200 = 0 by omega]; exact z1)⟩, z2, z3⟩
  · go_ret
    obtain ⟨z1, z2, z3⟩ := mk.out 200
    exact ⟨_, rfl, _, ⟨_, _, (by rw [show min (max room 0) 200 = 200 by omega]; exact z1)⟩, z2, z3⟩
  · go_ret
    obtain ⟨z1, z2, z3⟩ := mk.out room
    exact ⟨_, rfl, _, ⟨_, _, (by rw [show min (max room 0) 200 = room by omega]; exact z1)⟩, z2, z3⟩
variable {w w' : World} {F F' G : Nat → Prop} {p : Nat} {sl : Option Addr} {cap : Nat} {S : List Slt} {M pf : Nat} {a : Option Nat} {m : List Int} {D : DataW Unit} {mx nx wr : Int}
theorem len_mem (h : SM w F p sl cap S M pf a m D mx nx wr) : Calls Try.prog 36 #[.pointer (some ⟨p, 0, none⟩)] w fun e w' => e = .returned (.int .i64 (size D)) ∧ w = w' := by
  have c1 : w.cell? ⟨p, 1, none⟩ = some (.map (some M)) := h.box.cell 1
  have own := Lib.hid h.mp
  clear h
  go_enter Try.func36, Try.ntmps36
  go_wp2_with (first | (at_len; refine wpList_len_own _ rfl _ 136 rfl 2 3 Try.underlying136 _ M (size D) D rfl own.out ?_) | fail)
  go_ret
  exact ⟨rfl, rfl⟩
theorem next_mem (h : SM w F p sl cap S M pf a m D mx nx wr) : Calls Try.prog 56 #[.pointer (some ⟨p, 0, none⟩)] w fun e w' => e = .returned (.int .i64 nx) ∧ w = w' := by
  have c1 : w.cell? ⟨p, 4, none⟩ = some (.int .i64 nx) := h.box.cell 4
  clear h
  go_enter Try.func56, Try.ntmps56
  go_wp2
  go_ret
  exact ⟨rfl, rfl⟩
theorem writes_mem (h : SM w F p sl cap S M pf a m D mx nx wr) : Calls Try.prog 62 #[.pointer (some ⟨p, 0, none⟩)] w fun e w' => e = .returned (.int .i64 wr) ∧ w = w' := by
  have c1 : w.cell? ⟨p, 5, none⟩ = some (.int .i64 wr) := h.box.cell 5
  clear h
  go_enter Try.func62, Try.ntmps62
  go_wp2
  go_ret
  exact ⟨rfl, rfl⟩
/-- what the row of slots has at a place -/
theorem SM.slots (h : SM w F p sl cap S M pf a m D mx nx wr) {i : Nat} (hi : i < S.length) : ∃ g, sl = some ⟨g, 0, none⟩ ∧ g < w.heap.size ∧ (∀ j, w.frozen? ⟨g, j, none⟩ = false) ∧ w.cell? ⟨g, i * 3, none⟩ = some (.int .i64 S[i].id) ∧ w.cell? ⟨g, i * 3 + 1, none⟩ = some (.int .i64 S[i].ver) ∧ w.cell? ⟨g, i * 3 + 2, none⟩ = some (.slice S[i].A S[i].vals.length S[i].cap) := by
  obtain ⟨A, cp, e, h1, h2, h3, h4⟩ := own_open h.row
  injection e with e e2 e3
  subst e e3
  obtain ⟨g, rfl, _, hg, hc⟩ := h4 (by omega)
  refine ⟨g, rfl, hg, fun j => own_free h.row rfl j, ?_, ?_, ?_⟩
  · exact hc (i * 3) _ (by have := rowC_get sltC_len S i 0 hi (by decide); rw [Nat.add_zero] at this; rw [this]; rfl)
  · exact hc (i * 3 + 1) _ (by rw [rowC_get sltC_len S i 1 hi (by decide)]; rfl)
  · exact hc (i * 3 + 2) _ (by rw [rowC_get sltC_len S i 2 hi (by decide)]; rfl)
set_option maxHeartbeats 1000000 in
theorem write_mem (h : SM w F p sl cap S M pf a m D mx nx wr) {i : Nat} (hi : i < S.length) (id ver : Int) (A : Option Addr) (ca : Nat) (l : List Val) (hl : l.length ≤ 1000) (hA : A = none → ca = 0 ∧ l.length = 0) (ha : ValsIn w A l) (hw : -9223372036854775808 ≤ wr + 1 ∧ wr + 1 < 9223372036854775808) :
    Calls Try.prog 85 #[.pointer (some ⟨p, 0, none⟩), .int .i64 i, .agg #[.int .i64 id, .int .i64 ver, .slice A l.length ca]] w fun e w' => e = .returned (.tuple #[]) ∧ ∃ F' A' ca', SM w' F' p sl cap (S.set i ⟨id, ver, A', ca', l⟩) M pf a m D mx nx (wr + 1) ∧ Chg F w w' ∧ Grew w F F' := by
  have CP := Lib.hid (fun W (hB : Below w.heap.size w W) => scopy_any A ca l W (by omega) hA (ha.below hB))
  replace h := Lib.hid h
  go_enter Try.func85, Try.ntmps85
  go_wp2_with fail
  refine (CP.out _ (by repeat (first | (with_reducible exact Below.refl _ _) | (with_reducible refine Below.drew ?_) | (with_reducible refine Below.alloc ?_ (by simp [more_size]; try omega) _) | (with_reducible refine Below.setCell ?_ (by simp [more_size]; try omega) _) | (with_reducible refine below_more ?_ _ (by simp [more_size]; try omega))))).mono ?_
  rintro e w1 ⟨v, rfl, own, bel⟩
  obtain ⟨A', ca', rfl, q1, q2, q3, q4⟩ := own_vals own
  have hb0 : Blk w1 w.heap.size #[.int .i64 id, .int .i64 ver, .slice A l.length ca] 63 := (Blk.new w _ _ rfl).below bel (by simp)
  have hbw : Below w.heap.size w w1 := (show Below w.heap.size w (w.alloc (.cells #[.int .i64 id, .int .i64 ver, .slice A l.length ca] 63)) from (by repeat (first | (with_reducible exact Below.refl _ _) | (with_reducible refine Below.drew ?_) | (with_reducible refine Below.alloc ?_ (by simp [more_size]; try omega) _) | (with_reducible refine Below.setCell ?_ (by simp [more_size]; try omega) _) | (with_reducible refine below_more ?_ _ (by simp [more_size]; try omega))))).trans (bel.mono (by simp))
  have hA' : ∀ x, A' = some x → w.heap.size < x.block ∧ x.block < w1.heap.size := fun x e => by
    subst e
    have e1 := own_ge own x.block rfl
    rcases own.2 with ⟨e, _⟩ | ⟨g, cp, cur, e, _, hgg, _⟩
    · cases e
    · injection e with e; injection e with e; subst e
      have e2 : w.heap.size + 1 ≤ g := by simpa using e1
      exact ⟨e2, (Array.getElem?_eq_some_iff.1 hgg).1⟩
  have f2 := hb0.free 2
  have c2 := hb0.cell 2
  replace hb0 := Lib.hid hb0
  replace hbw := Lib.hid hbw
  replace hA' := Lib.hid hA'
  replace q4 := Lib.hid q4
  clear own bel
  go_wp2_with fail
  refine wp_named9 (R := fun W2 => SM W2 F p sl cap S M pf a m D mx nx wr ∧ Blk W2 w.heap.size #[.int .i64 id, .int .i64 ver, .slice A' l.length ca'] 63 ∧ ValsIn W2 A' l ∧ Below w.heap.size w W2 ∧ (∀ x, A' = some x → x.block < W2.heap.size)) ⟨?_, ?_, ?_, ?_, ?_⟩ ?_
  · exact (h.out.below hbw.out).beside (G := fun k => k = w.heap.size) (Chg.set _ _ rfl) (fun k hk _ e => by have := h.out.Flt k hk; omega)
  · exact hb0.out.set 2 _
  · exact q4.out.same (by simp [World.setCell]) (fun x e => Below.heap_setCell w1 _ _ _ (by have := hA'.out x e; simp only; omega))
  · exact hbw.out.setCell (by simp) _
  · intro x e; have := hA'.out x e; simp [World.setCell]; omega
  rintro W2 ⟨hS, hb2, hv2, hB2, hl2⟩
  obtain ⟨g, hsl, hgl, hgf, g0, g1, g2⟩ := hS.slots hi
  subst hsl
  have cp0 : W2.cell? ⟨p, 0, none⟩ = some (.slice (some ⟨g, 0, none⟩) S.length cap) := hS.box.cell 0
  have b0 : W2.cell? ⟨w.heap.size, 0, none⟩ = some (.int .i64 id) := hb2.cell 0
  have b1 : W2.cell? ⟨w.heap.size, 1, none⟩ = some (.int .i64 ver) := hb2.cell 1
  have b2 : W2.cell? ⟨w.heap.size, 2, none⟩ = some (.slice A' l.length ca') := hb2.cell 2
  have hi' : (i : Int) < (S.length : Int) := by omega
  have sv : SV W2 (fun k => F k ∨ ∃ x, A' = some x ∧ x.block = k) (Core p (slotsV (some ⟨g, 0, none⟩) S.length cap).ownBlock M pf a) ⟨id, ver, A', ca', l⟩ :=
    ⟨fun e => ⟨q3 e, by have := q3 e; simp only; omega⟩, hl, hv2, fun x e => ⟨.inr ⟨x, e, rfl⟩, fun c => by have := h.out.Flt _ (h.out.hF _ c); have := hA'.out x e; omega, hl2 x e⟩⟩
  have hS2 := hS.widen (F' := fun k => F k ∨ ∃ x, A' = some x ∧ x.block = k) (fun k hk => .inl hk) (by
    rintro k (q | ⟨x, q, rfl⟩)
    · exact hS.Flt k q
    · exact hl2 x q)
  have fin := Lib.hid (hS2.slot rfl hi _ sv)
  have hC : Hid (Chg F w W2) := Lib.hid (Chg.of_below hB2)
  have hG : Hid (Grew w F (fun k => F k ∨ ∃ x, A' = some x ∧ x.block = k)) := Lib.hid ⟨fun k hk => .inl hk, by
    rintro k (q | ⟨x, q, rfl⟩)
    · exact .inl q
    · exact .inr (by have := hA'.out x q; omega)⟩
  have hG2 : Hid (Grew W2 F (fun k => F k ∨ ∃ x, A' = some x ∧ x.block = k) → True) := Lib.hid (fun _ => trivial)
  replace hS := Lib.hid hS
  clear hb0 hbw q4 sv hS2 hb2 hv2 hB2 hl2 f2 c2 hG2
  go_region
  generalize hW3 : ((W2.setCell ⟨g, i * 3, none⟩ (.int .i64 id)).setCell ⟨g, i * 3 + 1, none⟩ (.int .i64 ver)).setCell ⟨g, i * 3 + 2, none⟩ (.slice A' l.length ca') = W3 at *
  have k3 : SM W3.drew (fun k => F k ∨ ∃ x, A' = some x ∧ x.block = k) p (some ⟨g, 0, none⟩) cap (S.set i ⟨id, ver, A', ca', l⟩) M pf a m D mx nx wr := fin.out.1.below (Below.drew (Below.refl _ _))
  have c3 : Chg F w W3.drew := by
    have q : Chg (fun k => F k ∨ ∃ x, A' = some x ∧ x.block = k) W2 W3 := fin.out.2
    exact hC.out.trans hG.out (q.then Chg.drew)
  clear fin hC hS hW3
  generalize W3.drew = W4 at *
  have w5 : W4.cell? ⟨p, 5, none⟩ = some (.int .i64 wr) := k3.box.cell 5
  have f5 := k3.box.free 5
  have fin2 := Lib.hid (k3.writes' (wr + 1))
  have hwr : IntKind.i64.wrap (wr + 1) = wr + 1 := IntWalk.i64_in _ (by omega)
  clear k3 hw
  go_wp2
  go_end0
  exact ⟨rfl, _, _, _, fin2.out.1, c3.trans hG.out fin2.out.2, hG.out⟩
end Go.Proofs.Ytilpgojkbgbinaa
