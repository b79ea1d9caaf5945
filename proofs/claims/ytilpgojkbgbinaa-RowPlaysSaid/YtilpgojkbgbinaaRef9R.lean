/- The document's rows: Replace where the number is there. -/
import Derived.Test.YtilpgojkbgbinaaRef9D
set_option maxRecDepth 100000
set_option linter.unusedVariables false
set_option linter.unusedSimpArgs false
namespace Go.Proofs.Ytilpgojkbgbinaa
open Go.RowKit
open Go.Maps (has size Keyed int_keyed keyOf_int_mk)
attribute [local go_sem] run_frombits run_tobits more_more more_drew more_drewN more_size more_cell more_frozen run_store_float lt_c1 le_c1 lt_s1 le_s1 lt_c2 le_c2 lt_s2 le_s2 lt_c3 le_c3 lt_s3 le_s3 lt_c4 le_c4 lt_s4 le_s4 lt_c5 le_c5 lt_s5 le_s5 lt_c6 le_c6 lt_s6 le_s6 lt_c7 le_c7 lt_s7 le_s7 lt_c8 le_c8 lt_s8 le_s8 lt_c9 le_c9 lt_s9 le_s9 lt_c10 le_c10 lt_s10 le_s10 lt_c11 le_c11 lt_s11 le_s11 lt_c12 le_c12 lt_s12 le_s12 le_c0
variable {w w' : World} {pr : Nat} {G G' Y : Nat → Prop} {A : Option Addr} {cap : Nat} {L : List Slt} {mx nx : Int}
theorem own_three9 {base g c : Nat} {L : List Slt} (h : w.ownsRow base 63 3 (.slice (some ⟨g, 0, none⟩) L.length c) L.length (rowC sltC L)) {k : Nat} (hk : k < L.length) (s : Slt) :
    (((w.setCell ⟨g, k * 3, none⟩ (.int .i64 s.id)).setCell ⟨g, k * 3 + 1, none⟩ (.int .i64 s.ver)).setCell ⟨g, k * 3 + 2, none⟩ (.slice s.A s.vals.length s.cap)).ownsRow base 63 3 (.slice (some ⟨g, 0, none⟩) L.length c) L.length (rowC sltC (L.set k s)) := by
  have h3 := own_set (own_set (own_set h (g := g) rfl (k * 3) (by omega) (.int .i64 s.id)) (g := g) rfl (k * 3 + 1) (by omega) (.int .i64 s.ver)) (g := g) rfl (k * 3 + 2) (by omega) (.slice s.A s.vals.length s.cap)
  rw [← rowC_three sltC_len (y := s) rfl L k hk]
  exact h3
set_option maxHeartbeats 4000000 in
theorem ref_replace_ok (h : RM w pr G A cap L mx nx) (hL : L.length ≤ 1000) (id : Int) (B : Option Addr) (ca : Nat) (l : List Val) (hl : l.length ≤ 1000) (hBn : B = none → ca = 0 ∧ l.length = 0) (ha : ValsIn w B l) (hyes : ∀ k, AtK L id k → okAt L id k = true) :
    Calls Try.prog 64 #[.pointer (some ⟨pr, 0, none⟩), .int .i64 id, .slice B l.length ca] w fun e w' => e = .returned (.int .i64 0) ∧ ∃ k s vA vc A' cap' G', AtK L id k ∧ L[k]? = some s ∧ RM w' pr G' A' cap' (L.set k ⟨id, wrap64 (s.ver + 1), vA, vc, l⟩) mx nx ∧ Chg (fun k => k = pr) w w' ∧ Grew w G G' := by
  obtain ⟨i0, hi, hz0, hz1, hz2⟩ := info_parts info_row
  have AT := Lib.hid (at_any9 h id)
  have CP := Lib.hid (fun W (hB : Below w.heap.size w W) => rcopy_any B ca l W hl hBn (ha.below hB))
  have hh := Lib.hid h
  have hpr : pr < w.heap.size := h.Glt pr h.hp
  clear h ha
  go_enter Try.func64, Try.ntmps64
  go_wp2_with fail
  refine AT.out.mono ?_
  rintro e w1 ⟨k, rfl, hk, x, rfl⟩
  rw [hyes k hk]
  obtain ⟨hkl, hke⟩ := okAt_lt (hyes k hk)
  have hB1 := more_below w x
  have hM1 := Lib.hid (hh.out.below hB1)
  have hsz1 := hB1.size
  generalize more w x = W1 at *
  obtain ⟨g, rfl, hg1, z1, z2, z3⟩ := hM1.out.at_ hkl
  clear z1 z2 z3
  have hc1 : L.length ≤ cap ∧ cap ≤ 9223372036854775807 := by
    obtain ⟨A', cp, e, h1, h2, _⟩ := own_open hM1.out.row
    injection e with _ _ e3
    omega
  obtain ⟨hc1, hc2⟩ := hc1
  have c0 : W1.cell? ⟨pr, 0, none⟩ = some (.slice (some ⟨g, 0, none⟩) L.length cap) := hM1.out.box.cell 0
  have ol := Lib.hid (hM1.out.olds L.length (Nat.le_refl _))
  rw [List.take_length] at ol
  have nil := Lib.hid (World.ownsRow_nil W1 W1.heap.size 63 3)
  replace hk := Lib.hid hk
  clear AT hyes
  go_wp2_with (first
    | (at_builtin; refine wpList_append_row rfl _ _ 105 rfl W1.heap.size 63 i0 _ 3 40 Try.underlying105 hi hz0 hz1 hz2 rfl (by decide) (.slice none 0 0) 0 [] rfl nil.out (some ⟨g, 0, none⟩) L.length cap (rowC sltC L) rfl (fun e => by cases e) (rowC_length sltC_len L) ol.out (rowC_one sltC_one _) (by unfold maxLen; omega) (by omega) (Nat.le_refl _) ?_; intro v2 W2 own2 grow2 loc2)
    | fail)
  rw [Nat.zero_add, List.nil_append] at own2
  obtain ⟨g2, c2, rfl⟩ := own_some9 own2 (by omega)
  have hB2 : Below W1.heap.size W1 W2 := ⟨grow2.os, grow2.tape, grow2.output, grow2.size, fun j hj => grow2.block j hj (by simp [Value.ownBlock])⟩
  have hB2w : Below w.heap.size w W2 := hB1.trans (hB2.mono hsz1)
  have hg2 := own_ge own2 g2 rfl
  have hg2l := own_lt9 own2 g2 rfl
  have hne : g2 ≠ pr := by omega
  obtain ⟨s, hs⟩ : ∃ s, L[k]? = some s := ⟨L[k], List.getElem?_eq_getElem hkl⟩
  have hse : L[k] = s := (List.getElem?_eq_some_iff.1 hs).2
  have FC := Lib.hid (show ∀ V, Below W2.heap.size W2 V → V.ownsRow w.heap.size 63 3 (.slice (some ⟨g2, 0, none⟩) L.length c2) L.length (rowC sltC L) ∧ V.cell? ⟨pr, 0, none⟩ = some (.slice (some ⟨g, 0, none⟩) L.length cap) ∧ V.frozen? ⟨pr, 0, none⟩ = false ∧ V.cell? ⟨g2, k * 3, none⟩ = some (.int .i64 s.id) ∧ V.cell? ⟨g2, k * 3 + 1, none⟩ = some (.int .i64 s.ver) ∧ V.cell? ⟨g2, k * 3 + 2, none⟩ = some (.slice s.A s.vals.length s.cap) ∧ ∀ o, V.frozen? ⟨g2, o, none⟩ = false from fun V hV => by
    have q1 : V.heap[pr]? = W1.heap[pr]? := (hV.block pr (by have := hB2.size; omega)).trans (hB2.block pr (by omega))
    have q2 : V.heap[g2]? = W2.heap[g2]? := hV.block g2 hg2l
    have o2 := own_same (own_lower own2 hsz1) (w' := V) (fun j e => by simp [Value.ownBlock] at e; subst e; exact q2)
    obtain ⟨A', cp, e, _, _, _, h4⟩ := own_open o2
    obtain ⟨g9, rfl, _, _, hc⟩ := h4 (by omega)
    injection e with e
    injection e with e
    injection e with e
    subst e
    rw [← hse]
    exact ⟨o2, (World.cell?_of_block (w := W1) (a := ⟨pr, 0, none⟩) q1).trans c0, (World.frozen?_of_block (w := W1) (a := ⟨pr, 0, none⟩) q1).trans (hM1.out.box.free 0), hc (k * 3) _ (by have := rowC_get sltC_len L k 0 hkl (by decide); rw [Nat.add_zero] at this; rw [this]; rfl), hc (k * 3 + 1) _ (by rw [rowC_get sltC_len L k 1 hkl (by decide)]; rfl), hc (k * 3 + 2) _ (by rw [rowC_get sltC_len L k 2 hkl (by decide)]; rfl), fun o => own_free o2 rfl o⟩)
  obtain ⟨o0, d0, f0, a0, a1, a2, fz⟩ := FC.out W2 (Below.refl _ _)
  have hkl' : (k : Int) < (L.length : Int) := by omega
  have hk9 : (k : Int) < 1000 := by omega
  replace hs := Lib.hid hs
  clear o0 own2 grow2 loc2 ol nil hM1 c0 hse hc1 hc2
  replace hB2w := Lib.hid hB2w
  go_upto_region 5 with fail
  go_region_law (first
    | (go_simp; go_at_call 100; refine (CP.out W2.drew (Below.drew hB2w.out)).mono ?_; rintro e W3 ⟨vA, vc, rfl, own3, hB3⟩; have hB3' : Below W2.heap.size W2 W3 := (Below.drew (Below.refl _ _)).trans hB3; obtain ⟨o3, d3, f3, b0, b1, b2, fz3⟩ := FC.out W3 hB3'; replace o3 := Lib.hid o3; replace own3 := Lib.hid own3; replace hB3' := Lib.hid hB3'))
  all_goals
    have hwr : IntKind.i64.wrap (s.ver + 1) = wrap64 (s.ver + 1) := IntWalk.i64_left _
    obtain ⟨W4, hW4⟩ : ∃ W4, W4 = ((W3.setCell ⟨g2, k * 3, none⟩ (.int .i64 id)).setCell ⟨g2, k * 3 + 1, none⟩ (.int .i64 (IntKind.i64.wrap (s.ver + 1)))).setCell ⟨g2, k * 3 + 2, none⟩ (.slice vA l.length vc) := ⟨_, rfl⟩
    have own4 : W4.ownsRow w.heap.size 63 3 (.slice (some ⟨g2, 0, none⟩) (L.set k ⟨id, wrap64 (s.ver + 1), vA, vc, l⟩).length c2) (L.set k ⟨id, wrap64 (s.ver + 1), vA, vc, l⟩).length (rowC sltC (L.set k ⟨id, wrap64 (s.ver + 1), vA, vc, l⟩)) := by
      rw [hW4, List.length_set, hwr]; exact own_three9 o3.out hkl ⟨id, wrap64 (s.ver + 1), vA, vc, l⟩
    have hC4 : Chg (fun j => j = g2) W3 W4 := by
      rw [hW4]; exact ((Chg.set (F := fun j => j = g2) ⟨g2, k * 3, none⟩ _ rfl).then (Chg.set (F := fun j => j = g2) ⟨g2, k * 3 + 1, none⟩ _ rfl)).then (Chg.set (F := fun j => j = g2) ⟨g2, k * 3 + 2, none⟩ _ rfl)
    have hz2 : w.heap.size ≤ g2 := by omega
    have hB3w : Below w.heap.size w W3 := hB2w.out.trans (hB3'.out.mono hB2w.out.size)
    have hz3 := hB3w.size
    have hB4 : Below w.heap.size w W4 := hB3w.trans (hC4.below (fun j e => by rw [e]; exact hz2) hB3w.size)
    have hv := own3.out
    have hv4 : ValsIn W4 vA l := by
      obtain ⟨A9, c9, e9, _, _, _, hv9⟩ := own_vals hv
      injection e9 with e9
      subst e9
      refine hv9.same hC4.size (fun y e => hC4.block _ (own_lt9 hv _ (by subst e; rfl)) (fun c => ?_))
      have := own_ge hv y.block (by subst e; rfl)
      have e3 : W2.drew.heap.size = W2.heap.size := rfl
      omega
    have hA4 : ∀ y, vA = some y → w.heap.size ≤ y.block ∧ y.block < W4.heap.size := fun y e => by
      have a1 := own_ge hv y.block (by subst e; rfl)
      have a2 := own_lt9 hv y.block (by subst e; rfl)
      have e3 : W2.drew.heap.size = W2.heap.size := rfl
      have := hC4.size
      omega
    have hn4 : vA = none → vc = 0 ∧ l.length = 0 := fun e => by
      rcases hv.2 with ⟨e2, e3⟩ | ⟨g9, cp, cur, e2, _⟩
      · injection e2 with _ _ e4; exact ⟨e4, e3⟩
      · injection e2 with e4; rw [e] at e4; cases e4
    obtain ⟨r1, r2⟩ := hh.out.rows hB4 own4 (fun t ht => by
      rcases List.mem_or_eq_of_mem_set ht with q | rfl
      · exact .inl q
      · exact .inr ⟨hn4, hl, hv4, hA4⟩)
    rw [List.length_set] at r1 r2
    have d4 : W4.cell? ⟨pr, 0, none⟩ = some (.slice (some ⟨g, 0, none⟩) L.length cap) := (World.cell?_of_block (w := W3) (a := ⟨pr, 0, none⟩) (hC4.block pr (by omega) (Ne.symm hne))).trans d3
    have f4 : W4.frozen? ⟨pr, 0, none⟩ = false := (World.frozen?_of_block (w := W3) (a := ⟨pr, 0, none⟩) (hC4.block pr (by omega) (Ne.symm hne))).trans f3
    replace r1 := Lib.hid r1
    replace r2 := Lib.hid r2
    have hGr : Hid (Grew w G (fun k => G k ∨ (w.heap.size ≤ k ∧ k < W4.heap.size))) := Lib.hid ⟨fun k h => .inl h, fun k h => h.imp (fun h => h) (fun h => h.1)⟩
    rw [← hW4]
    clear hwr hW4 own4 hC4 hB3w hB4 hv hv4 hA4 hn4 o3 own3 hB3' d3 f3 b0 b1 b2 fz3 hB3 FC CP d0 f0 a0 a1 a2 fz hB2w hh hB1 hB2
    go_wp2
    go_ret
    exact ⟨rfl, k, s, vA, vc, _, _, _, hk.out, hs.out, r1.out, r2.out, hGr.out⟩
end Go.Proofs.Ytilpgojkbgbinaa
