/- heaps.Merge of Items. -/
import Derived.Test.YtilpgojkbgbinaaLst3
import Derived.Test.YtilpgojkbgbinaaMrgP
import Derived.Test.YtilpgojkbgbinaaApp
import Derived.StillTailTactics
set_option maxRecDepth 100000
set_option linter.unusedVariables false
set_option linter.unusedSimpArgs false
namespace Go.Proofs.Ytilpgojkbgbinaa
open Go.RowKit
attribute [local go_sem] run_frombits run_tobits more_more more_drew more_drewN more_size more_cell more_frozen run_store_float lt_c1 le_c1 lt_s1 le_s1 lt_c2 le_c2 lt_s2 le_s2 lt_c3 le_c3 lt_s3 le_s3 lt_c4 le_c4 lt_s4 le_s4 lt_c5 le_c5 lt_s5 le_s5 lt_c6 le_c6 lt_s6 le_s6 lt_c7 le_c7 lt_s7 le_s7 lt_c8 le_c8 lt_s8 le_s8 lt_c9 le_c9 lt_s9 le_s9 lt_c10 le_c10 lt_s10 le_s10 lt_c11 le_c11 lt_s11 le_s11 lt_c12 le_c12 lt_s12 le_s12 le_c0 run_ta_It3
theorem wp_called_q {P : Program} {id : Nat} {l : Array Oper} {Q : Exit → Act → World → Prop} {a : Act} {w : World} {R : World → Prop} (h : R w) (k : ∀ q : Prop, Hid ((∀ W, R W → Code.wp P (.region id l true) Q a W) → q) → q) : Code.wp P (.region id l true) Q a w := k _ (Lib.hid fun h' => h') w h
/-- a row of Items, as a slice -/
structure RwI where
  A : Option Addr
  cap : Nat
  l : List Itm
def cRw (r : RwI) : List Value := [.slice r.A r.l.length r.cap]
theorem cRw_len (r : RwI) : (cRw r).length = 1 := rfl
theorem cRw_one (r : RwI) : ∀ u ∈ cRw r, u.oneCell' = true := by
  intro u hu; simp [cRw] at hu; rcases hu with rfl; rfl
set_option maxHeartbeats 8000000 in
theorem merge_It3 {lt : Itm → Itm → Bool} (hlt : Swo lt) {fid : FuncId} {caps : Array Value} (hT : Tells valItm lt fid caps []) (A : Option Addr) (cap : Nat) (Rs : List RwI) (w : World) (hl : Rs.length ≤ 1000) (hll : ∀ r ∈ Rs, r.l.length ≤ 1000) (htot : (itsR (Rs.map (·.l))).flatten.length ≤ 100000)
    (ha : RowIn cRw 1 w A Rs) (hr : ∀ r ∈ Rs, RowIn cItm 2 w r.A r.l) :
    Calls Try.prog 57 #[.slice A Rs.length cap, .func (.func fid) #[] caps] w fun e w' => ∃ v D, e = .returned v ∧ w'.ownsRow w.heap.size 80 2 v D.length (rowC cItm (D.map (·.v))) ∧ Below w.heap.size w w' ∧
      D.Perm (itsR (Rs.map (·.l))).flatten ∧ (∀ S : List (It Itm), S.Perm (itsR (Rs.map (·.l))).flatten → Sorted (ltS lt) S → (∀ r ∈ Rs.map (·.l), r.Pairwise (le lt)) → D = S) := by
  have ST := fun W => stable_It3 fid caps W
  have hcell := Lib.hid (fun (k : Nat) (hk : k < Rs.length) => (by
    obtain ⟨b1, off, e, hb1, hc⟩ := ha k hk
    refine ⟨b1, off, e, fun W hB => ?_, fun i hi => ?_⟩
    · have := (hB.cell (p := ⟨b1, off + k * 1 + 0, none⟩) hb1).trans (hc k hk 0 _ rfl)
      rwa [Nat.add_zero, Nat.mul_one] at this
    · obtain ⟨b2, o2, e2, hb2, hc2⟩ := hr _ (List.getElem_mem hk) i hi
      refine ⟨b2, o2, e2, fun W hB => ⟨?_, ?_⟩⟩
      · exact (hB.cell (p := ⟨b2, o2 + i * 2 + 0, none⟩) hb2).trans (hc2 i hi 0 _ rfl)
      · exact (hB.cell (p := ⟨b2, o2 + i * 2 + 1, none⟩) hb2).trans (hc2 i hi 1 _ rfl) :
    ∃ b1 off, A = some ⟨b1, off, none⟩ ∧ (∀ W, Below w.heap.size w W → W.cell? ⟨b1, off + k, none⟩ = some (.slice Rs[k].A Rs[k].l.length Rs[k].cap)) ∧
      ∀ i (hi : i < Rs[k].l.length), ∃ b2 o2, Rs[k].A = some ⟨b2, o2, none⟩ ∧ ∀ W, Below w.heap.size w W → W.cell? ⟨b2, o2 + i * 2, none⟩ = some (.int .i64 (Rs[k].l[i]).n) ∧ W.cell? ⟨b2, o2 + i * 2 + 1, none⟩ = some (.int .i64 (Rs[k].l[i]).id)))
  have hLl : (Rs.map (·.l)).length = Rs.length := by rw [List.length_map]
  have hLat : ∀ k (hk : k < Rs.length), (Rs.map (·.l))[k]'(by rw [hLl]; exact hk) = Rs[k].l := fun k hk => by rw [List.getElem_map]
  obtain ⟨L, hL⟩ : ∃ L, L = Rs.map (·.l) := ⟨_, rfl⟩
  rw [← hL] at htot ⊢
  have hLl' := Lib.hid (show L.length = Rs.length by rw [hL]; exact hLl)
  have hLat' := Lib.hid (show ∀ k (hk : k < Rs.length) (hk2 : k < L.length), L[k] = Rs[k].l from fun k hk hk2 => by subst hL; exact hLat k hk)
  clear ha hr hL hLl hLat
  generalize hTot : (itsR L).flatten.length = Tot at *
  replace hTot := Lib.hid hTot
  go_enter Try.func57, Try.ntmps57
  go_wp2_with fail
  refine (ST _).mono ?_; rintro e w1 ⟨rfl, bt, rfl⟩
  go_wp2
  have hW0 : Hid (PIt3 153 (.func (.func 112) #[] #[.pointer (some ⟨w.heap.size, 0, none⟩)]) (w.heap.size + 1) [(w.heap.size, .cells #[.func (.func fid) #[] caps] bt (0, 0))] ((w.alloc (.cells #[.func (.func fid) #[] caps] bt)).alloc (.cells #[.slice none 0 0, .func (.func 112) #[] #[.pointer (some ⟨w.heap.size, 0, none⟩)]] 153)) none []) := Lib.hid (PileS.new w bt _ _ _ _ _ _ rfl rfl)
  have hB0 : Hid (Below w.heap.size w ((w.alloc (.cells #[.func (.func fid) #[] caps] bt)).alloc (.cells #[.slice none 0 0, .func (.func 112) #[] #[.pointer (some ⟨w.heap.size, 0, none⟩)]] 153))) := Lib.hid (by repeat (first | (with_reducible exact Below.refl _ _) | (with_reducible refine Below.drew ?_) | (with_reducible refine Below.alloc ?_ (by simp [more_size]; try omega) _) | (with_reducible refine Below.setCell ?_ (by simp [more_size]; try omega) _) | (with_reducible refine below_more ?_ _ (by simp [more_size]; try omega))))
  generalize hp : w.heap.size + 1 = p at *
  generalize hb : w.heap.size = b at *
  clear ST
  go_loopw [6, 7, 17] (fun t6 t7 t17 wr => ∃ (k : Nat) (a : Option Nat), t17 = .int .i64 k ∧ k ≤ Rs.length ∧ Hid (PIt3 153 (.func (.func 112) #[] #[.pointer (some ⟨b, 0, none⟩)]) p [(b, .cells #[.func (.func fid) #[] caps] bt (0, 0))] wr a (heads ((itsR L).take k))) ∧ Hid (∀ g, a = some g → b ≤ g) ∧ Hid (Below b w wr)) (fun _ _ t _ => Rs.length - (intOf t).toNat)
  case atStart =>
    exact ⟨0, none, rfl, Nat.zero_le _, by simpa [heads] using hW0, Lib.hid (fun g e => by cases e), hB0⟩
  case round =>
    obtain ⟨k, a, rfl, hk, hP, hfa, hB⟩ := hrel
    clear hW0 hB0
    rcases Nat.lt_or_ge k Rs.length with hkl | hkl
    · obtain ⟨b1, off, rfl, hc1, hc2⟩ := hcell.out k hkl
      have hkl' : (k : Int) < (Rs.length : Int) := by omega
      have y0 := hc1 wr hB.out
      have hst := heads_step L k (by rw [hLl'.out]; exact hkl)
      rw [hLat'.out k hkl (by rw [hLl'.out]; exact hkl)] at hst
      have hrl := hll _ (List.getElem_mem hkl)
      have hkH : (heads ((itsR L).take k)).length ≤ 1000 := by
        have := heads_length_le ((itsR L).take k)
        rw [List.length_take] at this; omega
      generalize Rs[k] = r at *
      obtain ⟨rA, rc, rl⟩ := r
      dsimp only at y0 hst hrl hc2
      clear hc1
      cases rl with
      | nil =>
        simp only [List.append_nil] at hst
        replace hst := Lib.hid hst
        clear hc2
        go_wp2
        refine ⟨⟨k + 1, a, by go_num, by omega, Lib.hid (by rw [hst.out]; exact hP.out), hfa, hB⟩, by simp [intOf]; omega⟩
      | cons x rl =>
        obtain ⟨b2, o2, rfl, hcx⟩ := hc2 0 (by simp)
        obtain ⟨x0, x1⟩ := hcx wr hB.out
        obtain ⟨xn, xi⟩ := x
        simp only [List.getElem_cons_zero, Nat.zero_mul, Nat.add_zero] at x0 x1
        have hlen0 : (0 : Int) < (((⟨xn, xi⟩ : Itm) :: rl).length : Int) := by rw [List.length_cons]; omega
        clear hc2 hcx
        generalize ((⟨xn, xi⟩ : Itm) :: rl).length = rn at *
        replace hst := Lib.hid hst
        go_wp2_with (with_reducible refine wp_called_q (R := fun W => PIt3 153 (.func (.func 112) #[] #[.pointer (some ⟨b, 0, none⟩)]) p [(b, .cells #[.func (.func fid) #[] caps] bt (0, 0))] W a (heads ((itsR L).take k)) ∧ Below b w W ∧ W.cell? ⟨b2, o2, none⟩ = some (.int .i64 xn) ∧ W.cell? ⟨b2, o2 + 1, none⟩ = some (.int .i64 xi)) ⟨hP.out, hB.out, x0, x1⟩ (fun q hq => ?_))
        refine hq.out ?_
        rintro W ⟨hP1, hB1, z0, z1⟩
        clear hP hB x0 x1 y0
        obtain ⟨i0, hi0, hi1, hi2, hi3⟩ := info_parts info_It3
        have H := hP1
        obtain ⟨h1, h2, ⟨v, h3, h4, h5⟩, h6⟩ := hP1
        obtain ⟨m, hm⟩ : ∃ m, (heads ((itsR L).take k)).length = m := ⟨_, rfl⟩
        have fin := Lib.hid (fun (w1 : World) (g cap' : Nat) (grow : (W.alloc (.cells #[.int .i64 xn, .int .i64 xi, .int .i64 k, .int .i64 0] 155)).drew.grownBy w1 v.ownBlock) (hat : v.ownBlock = some g ∨ g = W.heap.size + 1) own => H.pushed (W0 := (W.alloc (.cells #[.int .i64 xn, .int .i64 xi, .int .i64 k, .int .i64 0] 155)).drew) (g := g) (cap := cap') (x := ⟨⟨xn, xi⟩, k, 0⟩) (by omega) (by repeat (first | (with_reducible exact Below.refl _ _) | (with_reducible refine Below.drew ?_) | (with_reducible refine Below.alloc ?_ (by simp [more_size]; try omega) _) | (with_reducible refine Below.setCell ?_ (by simp [more_size]; try omega) _) | (with_reducible refine below_more ?_ _ (by simp [more_size]; try omega)))) (h4 ▸ grow) (by rw [← h4]; rcases hat with e | e; exact .inl e; exact .inr (by omega)) own)
        have hpW := h3.lt
        have c0w : W.cell? ⟨p, 0, none⟩ = some v := h3.cell 0
        have f0w := h3.free 0
        have H5 := Lib.hid h5
        have hap : ∀ w1, (W.alloc (.cells #[.int .i64 xn, .int .i64 xi, .int .i64 k, .int .i64 0] 155)).drew.grownBy w1 v.ownBlock → w1.cell? ⟨p, 0, none⟩ = some v ∧ w1.frozen? ⟨p, 0, none⟩ = false := fun w1 hg => by
          have e := hg.block p (by simp; omega) (by rw [h4]; exact Ne.symm h2)
          have e2 : w1.heap[p]? = W.heap[p]? := e.trans (Below.heap_alloc W _ p hpW)
          exact ⟨(World.cell?_of_block (w := W) (a := ⟨p, 0, none⟩) e2).trans c0w, (World.frozen?_of_block (w := W) (a := ⟨p, 0, none⟩) e2).trans f0w⟩
        have KB := Lib.hid hap
        replace hB1 := Lib.hid hB1
        have hm2 : m ≤ 1000 := by omega
        clear h5 hap h1 h2 h3 h4 h6 H
        rw [hm] at H5 fin
        replace hm := Lib.hid hm
        go_region_law ((refine step_append_lies _ (by rfl) _ _ 151 (by rfl) 0 155 i0 (.agg #[.int .i64 0, .int .i64 0, .int .i64 0, .int .i64 0]) 4 32 Try.underlying151 hi0 hi1 hi2 hi3 (by rfl) (by decide) v m (rowC cIt3 (heads ((itsR L).take k))) (by rfl) (own_below H5.out (by repeat (first | exact Below.refl _ _ | with_reducible refine Below.alloc ?_ (by simp) _ | with_reducible refine Below.drew ?_))) ⟨W.heap.size, 0, none⟩ 1 1 [.int .i64 xn, .int .i64 xi, .int .i64 k, .int .i64 0] (by rfl) (by rfl) (World.news_of_block (cs := #[.int .i64 xn, .int .i64 xi, .int .i64 k, .int .i64 0]) (t := 155) (fr := (0, 0)) (heap_alloc_new W _)) (cIt3_one ⟨⟨xn, xi⟩, k, 0⟩) (by decide) (by unfold maxLen; omega) (by omega) (Nat.zero_le _) (W.heap.size + 1) (by simp) ?_; intro g cap' w1 own1 grow1 hat hlt; obtain ⟨d0, e0⟩ := KB.out w1 grow1))
        all_goals
          obtain ⟨a', f1, f2, f3⟩ := fin.out w1 g cap' grow1 hat own1
          have f1' := Lib.hid (show PIt3 153 (.func (.func 112) #[] #[.pointer (some ⟨b, 0, none⟩)]) p [(b, .cells #[.func (.func fid) #[] caps] bt (0, 0))] _ a' (heads ((itsR L).take (k + 1))) from hst.out ▸ f1)
          replace f2 := Lib.hid f2
          replace f3 := Lib.hid f3
          clear f1 fin own1 grow1 hat KB H5 d0 e0 hlt z0 z1 c0w f0w
          go_wp2
          refine ⟨⟨k + 1, a', by go_num, by omega, f1', Lib.hid (fresh_ge (w' := W) f2.out (by have := hB1.out.size; omega) hfa.out), Lib.hid (hB1.out.trans (f3.out.below (by have := hB1.out.size; omega) (by omega) hfa.out))⟩, by simp [intOf]; omega⟩
    · obtain rfl : k = Rs.length := by omega
      have hP1 := hP.out
      rw [List.take_of_length_le (by rw [itsR_length, hLl'.out]; exact Nat.le_refl _)] at hP1
      have hPile := pile_It3 (p := p) (pT := 153) (tells_It3 hT b bt)
      have IA := Lib.hid (init_any hPile a _ wr hP1)
      have IH := Lib.hid (init_isHeap (ltS_swo hlt) ⟨⟨0, 0⟩, 0, 0⟩ (heads (itsR L)))
      have MID := Lib.hid (mid_start (lt := lt) L _ (initL_perm (lt := ltS lt) ⟨⟨0, 0⟩, 0, 0⟩ ((heads (itsR L)).length / 2) (heads (itsR L)) (by omega)))
      replace hPile := Lib.hid hPile
      have hpl : p < wr.heap.size := hP1.p_lt
      obtain ⟨i0, hi, hz0, hz1, hz2⟩ := info_parts info_Itm
      clear hP hP1 hT
      go_wp2_with fail
      refine IA.out.mono ?_; rintro e w2 ⟨rfl, hS2, hK2⟩
      have own0 := Lib.hid (World.ownsRow_nil w2 (p + 1) 80 2)
      have hB2 := Lib.hid (hB.out.trans (hK2.below (B := b) (by have := hB.out.size; omega) (by omega) hfa.out))
      have hpl2 : p < w2.heap.size := Nat.lt_of_lt_of_le hpl hK2.size
      replace hS2 := Lib.hid hS2
      clear IA hK2 hB
      go_wp2
      go_loopw [8, 9, 10] (fun t8 _ _ wr => ∃ (n8 : Nat) (A2 : Option Addr) (cap2 : Nat) (D H : List (It Itm)) (R : List (List (It Itm))) (a : Option Nat), t8 = .slice A2 n8 cap2 ∧ Hid (D.length = n8) ∧ n8 ≤ Tot ∧ p < wr.heap.size ∧ Hid (PIt3 153 (.func (.func 112) #[] #[.pointer (some ⟨b, 0, none⟩)]) p [(b, .cells #[.func (.func fid) #[] caps] bt (0, 0))] wr a H) ∧ Hid (Mid lt L D R H) ∧ Hid (IsHeap (ltS lt) ⟨⟨0, 0⟩, 0, 0⟩ H) ∧ Hid (wr.ownsRow (p + 1) 80 2 (.slice A2 n8 cap2) n8 (rowC cItm (D.map (·.v)))) ∧ Hid (∀ g, (Value.slice A2 n8 cap2).ownBlock = some g → some g ≠ a) ∧ Hid (∀ g, a = some g → b ≤ g) ∧ Hid (Below b w wr)) (fun t _ _ _ => match t with | .slice _ k _ => Tot - k | _ => 0)
      case atStart =>
        exact ⟨0, none, 0, [], _, _, a, rfl, Lib.hid rfl, Nat.zero_le _, hpl2, hS2, MID, IH, own0, Lib.hid (fun g e => by simp [Value.ownBlock] at e), hfa, hB2⟩
      case round =>
        obtain ⟨n8, A2, cap2, D, H, R, a2, rfl, hD, hn8, hpl3, hP, hM, hheap, own, hsep, hfa2, hB⟩ := hrel
        clear IH MID own0 hB2 hS2 hpl hpl2 hfa
        have LN := hPile.out.len wr a2 H hP.out
        obtain ⟨m, hm⟩ : ∃ m, H.length = m := ⟨_, rfl⟩
        rw [hm] at LN
        replace LN := Lib.hid LN
        rcases Nat.eq_zero_or_pos m with hm0 | hm0
        · subst hm0
          obtain rfl := hD.out
          have E := mid_end hM.out hm
          have F := own_base (B := w.heap.size) own.out (by omega)
          replace E := Lib.hid E
          replace F := Lib.hid F
          go_wp2_with fail
          refine LN.out.mono ?_; rintro e w' ⟨rfl, rfl⟩
          go_wp2
          go_ret
          exact ⟨_, D, rfl, F.out, hb ▸ hB.out, E.out.1, E.out.2⟩
        · have hm1 : (0 : Int) < (m : Int) := by omega
          have hHl : 0 < H.length := by omega
          obtain ⟨j, k, hj, hk', hxe, hmid1, hmid2⟩ := mid_pop hlt ⟨⟨0, 0⟩, 0, 0⟩ hM.out hheap.out hHl
          have PL := pop_law (ltS_swo hlt) ⟨⟨0, 0⟩, 0, 0⟩ H hHl hheap.out
          have hheap' := Lib.hid PL.2.2
          have PO := pop_any hPile.out a2 H hHl wr hP.out
          rw [hxe] at PO hmid1 hmid2
          have hjR : j < Rs.length := by rw [← hLl'.out]; exact hj
          have hLj := hLat'.out j hjR hj
          have hjl := hll _ (List.getElem_mem hjR)
          obtain ⟨b1, off, rfl, hc1, hc2⟩ := hcell.out j hjR
          have hDT : n8 + 1 ≤ Tot := by
            have h1 := hM.out.all.length_eq
            rw [hTot.out, List.length_append, hD.out] at h1
            have : 0 < R.flatten.length := by
              rcases Nat.eq_zero_or_pos R.flatten.length with q | q
              · exfalso
                have hf := List.eq_nil_of_length_eq_zero q
                have hh := hM.out.heap.length_eq
                have : heads R = [] := by
                  unfold heads
                  rw [List.filterMap_eq_nil_iff]
                  intro r hr
                  rw [List.flatten_eq_nil_iff] at hf
                  rw [hf r hr]; rfl
                rw [this, List.length_nil] at hh; omega
              · exact q
            omega
          have hk2 : k < Rs[j].l.length := by rw [← hLj]; exact hk'
          have hlastL : (k + 1 < L[j].length) ↔ (k + 1 < Rs[j].l.length) := by rw [hLj]
          have hnx : ∀ (h : k + 1 < L[j].length), ∃ b2 o2, Rs[j].A = some ⟨b2, o2, none⟩ ∧ ∀ W, Below b w W → W.cell? ⟨b2, o2 + (k + 1) * 2, none⟩ = some (.int .i64 (L[j][k + 1]).n) ∧ W.cell? ⟨b2, o2 + (k + 1) * 2 + 1, none⟩ = some (.int .i64 (L[j][k + 1]).id) := fun h => by
            obtain ⟨b2, o2, e2, hc⟩ := hc2 (k + 1) (hlastL.1 h)
            have e3 : L[j][k + 1] = Rs[j].l[k + 1]'(hlastL.1 h) := List.getElem_of_eq hLj h
            exact ⟨b2, o2, e2, fun W hW => by rw [e3]; exact hc W hW⟩
          clear hc2 PL
          generalize L[j][k] = y at *
          obtain ⟨yn, yi⟩ := y
          replace PO := Lib.hid (show Calls Try.prog 90 #[.iface 148 (.pointer (some ⟨p, 0, none⟩))] wr (fun e w' => e = .returned (.iface 155 (.agg #[.int .i64 yn, .int .i64 yi, .int .i64 j, .int .i64 k])) ∧ _) from PO)
          have halt := Lib.hid hP.out.a_lt
          have hmap : rowC cItm ((D ++ [(⟨⟨yn, yi⟩, (j : Int), (k : Int)⟩ : It Itm)]).map (fun x : It Itm => x.v)) = rowC cItm (D.map (·.v)) ++ cItm ⟨yn, yi⟩ := by
            rw [List.map_append, rowC_append, List.map_singleton, rowC_single]
          replace hmap := Lib.hid hmap
          replace hmid1 := Lib.hid hmid1
          replace hmid2 := Lib.hid hmid2
          replace hnx := Lib.hid hnx
          replace hc1 := Lib.hid hc1
          replace hLj := Lib.hid hLj
          have PHlen := Lib.hid (hP.out.1)
          replace hlastL := Lib.hid hlastL
          clear hxe hM hheap
          go_wp2_with fail
          refine LN.out.mono ?_; rintro e w' ⟨rfl, rfl⟩
          go_wp2_with fail
          refine PO.out.mono ?_; rintro e w3 ⟨rfl, hS3, hK3⟩
          have own3 := hK3.own own.out (fun g hg => ⟨by have := own_ge own.out g hg; omega, hsep.out g hg⟩)
          have hB3 := Lib.hid (hB.out.trans (hK3.below (B := b) (by have := hB.out.size; omega) (by omega) hfa2.out))
          have hpl3' : p < w3.heap.size := Nat.lt_of_lt_of_le hpl3 hK3.size
          have halt3 := Lib.hid (fun g hg => Nat.lt_of_lt_of_le (halt.out g hg) hK3.size)
          have hge3 := Lib.hid (own_ge own3)
          have hlt3 := Lib.hid (own_lt own3)
          replace own3 := Lib.hid own3
          replace hS3 := Lib.hid hS3
          have hjr : (j : Int) < (Rs.length : Int) := by omega
          have hj0 : (0 : Int) ≤ (j : Int) := by omega
          have KX := Lib.hid (show ∀ w4, ((w3.alloc (.cells #[.int .i64 yn, .int .i64 yi, .int .i64 j, .int .i64 k] 155)).alloc (.cells #[.int .i64 yn, .int .i64 yi] 80)).grownBy w4 (Value.slice A2 n8 cap2).ownBlock →
              Blk w4 w3.heap.size #[.int .i64 yn, .int .i64 yi, .int .i64 j, .int .i64 k] 155 ∧ Below b w w4 ∧ PIt3 153 (.func (.func 112) #[] #[.pointer (some ⟨b, 0, none⟩)]) p [(b, .cells #[.func (.func fid) #[] caps] bt (0, 0))] w4 a2 ((popL (ltS lt) ⟨⟨0, 0⟩, 0, 0⟩ H).take (H.length - 1)) ∧ p < w4.heap.size ∧ w3.heap.size < w4.heap.size from fun w4 grow4 => by
            have grow4' := grown_after (grown_after grow4)
            have hbx : some w3.heap.size ≠ (Value.slice A2 n8 cap2).ownBlock := fun e => by have := hlt3.out _ e.symm; omega
            refine ⟨((Blk.new w3 _ _ rfl).alloc _).grown grow4 hbx, hB3.out.trans (grown_below grow4' (by have := hB3.out.size; omega) (fun g hg => by have := hge3.out g hg; omega)), hS3.out.beside grow4' (fun e => by have := hge3.out p e.symm; omega) (fun hn e => by
                cases ha : a2 with
                | none => exact hn ha
                | some g => exact hsep.out g (e ▸ ha) ha.symm) (fun b' o hm e => by
                simp only [List.mem_singleton, Prod.mk.injEq] at hm
                have := hge3.out b' e.symm; omega), Nat.lt_of_lt_of_le hpl3' grow4'.size, ?_⟩
            have := grow4.size
            simp at this
            omega)
          clear hK3 own hP PO LN hB halt
          by_cases hlast : k + 1 < L[j].length
          · have M4 := Lib.hid (hmid1.out hlast)
            obtain ⟨b2, o2, e2, hcy⟩ := hnx.out hlast
            have hlast' : (k : Int) + 1 < (Rs[j].l.length : Int) := by have := hlastL.out.1 hlast; omega
            have hlast2 : k + 1 < Rs[j].l.length := hlastL.out.1 hlast
            have hRlen : Rs[j].l.length ≤ 1000 := hjl
            have CC := Lib.hid (fun W (hW : Below b w W) => (⟨(by have := hc1.out W hW; rw [e2] at this; exact this), hcy W hW⟩ : W.cell? ⟨b1, off + j, none⟩ = some (.slice (some ⟨b2, o2, none⟩) Rs[j].l.length Rs[j].cap) ∧ W.cell? ⟨b2, o2 + (k + 1) * 2, none⟩ = some (.int .i64 (L[j][k + 1]).n) ∧ W.cell? ⟨b2, o2 + (k + 1) * 2 + 1, none⟩ = some (.int .i64 (L[j][k + 1]).id)))
            clear hmid1 hmid2 hnx hc1 hcy e2 hlastL
            generalize Rs[j].l.length = rn at *
            generalize Rs[j].cap = rcap at *
            generalize L[j][k + 1] = y' at *
            obtain ⟨yn', yi'⟩ := y'
            have ek : (((k + 1 : Nat) : Int)) = (k : Int) + 1 := rfl
            rw [ek] at M4
            have hwk : IntKind.i64.wrap ((k : Int) + 1) = (k : Int) + 1 := IntWalk.i64_in _ (by omega)
            go_wp2_with (at_builtin; refine wpList_append_own_at _ rfl _ _ 74 rfl (p + 1) 80 i0 _ 2 16 Try.underlying74 hi hz0 hz1 hz2 rfl (by decide) (.slice A2 n8 cap2) n8 _ rfl (own_below own3.out (by repeat (first | (with_reducible exact Below.refl _ _) | (with_reducible refine Below.drew ?_) | (with_reducible refine Below.alloc ?_ (by simp [more_size]; try omega) _) | (with_reducible refine Below.setCell ?_ (by simp [more_size]; try omega) _) | (with_reducible refine below_more ?_ _ (by simp [more_size]; try omega))))) _ 1 1 (cItm ⟨yn, yi⟩) rfl rfl (cells_at _ (cItm ⟨yn, yi⟩) _ (by simp)) (cItm_one _) (by unfold maxLen; omega) (by omega) (by simp; omega) ?_; intro v4 w4 own4 grow4 _ hat4; obtain ⟨X1, X2, X3, X4, X5⟩ := KX.out w4 grow4; have z2 : w4.cell? ⟨w3.heap.size, 2, none⟩ = some (.int .i64 j) := X1.cell 2; have z3 : w4.cell? ⟨w3.heap.size, 3, none⟩ = some (.int .i64 k) := X1.cell 3; obtain ⟨C1, C2, C3⟩ := CC.out w4 X2; replace X1 := Lib.hid X1; replace X2 := Lib.hid X2; replace X3 := Lib.hid X3)
            have own4' := hmap.out ▸ own4
            have grow4' := grown_after (grown_after grow4)
            obtain ⟨A4, cap4, rfl, _, _, _, _⟩ := own_open own4
            have sep4 := Lib.hid (show ∀ g, (Value.slice A4 (n8 + 1) cap4).ownBlock = some g → some g ≠ a2 from fun g hg e => by
              rcases hat4 with h | h
              · exact hsep.out g (h ▸ hg) e
              · rw [hg] at h; injection h with h; have := halt3.out g e.symm; simp at h; omega)
            have hl4 := Lib.hid (own_lt own4')
            have hD4 := Lib.hid (show (D ++ [(⟨⟨yn, yi⟩, (j : Int), (k : Int)⟩ : It Itm)]).length = n8 + 1 by rw [List.length_append, hD.out]; rfl)
            have hPU := fun (hlen : ((popL (ltS lt) ⟨⟨0, 0⟩, 0, 0⟩ H).take (H.length - 1)).length + 1 ≤ 1000000) => push_any hPile.out a2 _ ⟨⟨yn', yi'⟩, (j : Int), (k : Int) + 1⟩ hlen w4.drew X3.out.drew
            have hPL := Lib.hid (push_law (ltS_swo hlt) ⟨⟨0, 0⟩, 0, 0⟩ _ (⟨⟨yn', yi'⟩, (j : Int), (k : Int) + 1⟩ : It Itm) hheap'.out)
            replace own4' := Lib.hid own4'
            clear own4 grow4 grow4' hat4 own3 hS3 hB3 KX CC hheap'
            generalize hH' : (popL (ltS lt) ⟨⟨0, 0⟩, 0, 0⟩ H).take (H.length - 1) = H' at *
            have hH'l : H'.length + 1 ≤ 1000000 := X3.out.1 |> fun h => by
              have h1 := PHlen.out
              rw [← hH', List.length_take]
              omega
            replace hPU := Lib.hid (show Calls Try.prog 89 #[.iface 148 (.pointer (some ⟨p, 0, none⟩)), .iface 155 (.agg #[.int .i64 yn', .int .i64 yi', .int .i64 j, .int .i64 ((k : Int) + 1)])] w4.drew (fun e w' => e = .returned (.tuple #[]) ∧ _) from hPU hH'l)
            have hX2d := Lib.hid (show Below b w w4.drew from X2.out.drew)
            have own4d := Lib.hid (show w4.drew.ownsRow (p + 1) 80 2 (.slice A4 (n8 + 1) cap4) (n8 + 1) _ from own_below own4'.out (Below.drew (Below.refl _ _)))
            have z2d : w4.drew.cell? ⟨w3.heap.size, 2, none⟩ = some (.int .i64 j) := z2
            have C1d : w4.drew.cell? ⟨b1, off + j, none⟩ = some (.slice (some ⟨b2, o2, none⟩) rn rcap) := C1
            have C2d : w4.drew.cell? ⟨b2, o2 + (k + 1) * 2, none⟩ = some (.int .i64 yn') := C2
            have C3d : w4.drew.cell? ⟨b2, o2 + (k + 1) * 2 + 1, none⟩ = some (.int .i64 yi') := C3
            have hk0 : (0 : Int) ≤ (k : Int) + 1 := by omega
            clear own4' X2 hH' PHlen
            refine wp_region_tail 15 (by kernel_rfl) (by kernel_rfl) ?_
            simp only [List.take_succ_cons, List.take_zero, List.drop_succ_cons, List.drop_zero]
            repeat still_step
            refine wpStill_nil ?_
            go_wp2_with fail
            refine hPU.out.mono ?_
            rintro e w5 ⟨rfl, a5, hS5, hF5, hK5⟩
            have own5 := Lib.hid (hK5.own own4d.out (fun g hg => ⟨by have := own_ge own4d.out g hg; omega, sep4.out g hg⟩))
            have sep5 := Lib.hid (show ∀ g, (Value.slice A4 (n8 + 1) cap4).ownBlock = some g → some g ≠ a5 from fun g hg e => by
              rcases hF5 with h | ⟨q, h, hq⟩
              · exact sep4.out g hg (h ▸ e)
              · have := own_lt own4d.out g hg; rw [h] at e; injection e with e; omega)
            have hX4d : b ≤ w4.drew.heap.size := hX2d.out.size |> fun h => by have := h; omega
            have hfa5 := Lib.hid (fresh_ge (w' := w5) hF5 hX4d hfa2.out)
            have hB5 := Lib.hid (hX2d.out.trans (hK5.below (B := b) hX4d (by omega) hfa2.out))
            have hpl5 : p < w5.heap.size := Nat.lt_of_lt_of_le X4 hK5.size
            have M5 := Lib.hid (M4.out _ hPL.out.1)
            have hheap5 := Lib.hid hPL.out.2.1
            replace hS5 := Lib.hid hS5
            clear hK5 own4d hX2d hF5 hPL M4 X3 hPU
            go_wp2
            exact ⟨⟨n8 + 1, A4, cap4, _, _, _, a5, rfl, hD4, by omega, hpl5, hS5, M5, hheap5, own5, sep5, hfa5, hB5⟩, by simp; omega⟩
          · have M4 := Lib.hid (hmid2.out (by omega))
            have hc1' := Lib.hid (fun W (hW : Below b w W) => hc1.out W hW)
            have hlast' : ¬ ((k : Int) + 1 < (Rs[j].l.length : Int)) := by have := hlastL.out; omega
            clear hmid1 hmid2 hnx hc1 hlastL
            generalize Rs[j].l.length = rn at *
            generalize Rs[j].cap = rcap at *
            generalize Rs[j].A = rA at *
            have hwk : IntKind.i64.wrap ((k : Int) + 1) = (k : Int) + 1 := IntWalk.i64_in _ (by omega)
            have hlast2 : ((k : Int) + 1 < (rn : Int)) = False := eq_false hlast'
            go_wp2_with (at_builtin; refine wpList_append_own_at _ rfl _ _ 74 rfl (p + 1) 80 i0 _ 2 16 Try.underlying74 hi hz0 hz1 hz2 rfl (by decide) (.slice A2 n8 cap2) n8 _ rfl (own_below own3.out (by repeat (first | (with_reducible exact Below.refl _ _) | (with_reducible refine Below.drew ?_) | (with_reducible refine Below.alloc ?_ (by simp [more_size]; try omega) _) | (with_reducible refine Below.setCell ?_ (by simp [more_size]; try omega) _) | (with_reducible refine below_more ?_ _ (by simp [more_size]; try omega))))) _ 1 1 (cItm ⟨yn, yi⟩) rfl rfl (cells_at _ (cItm ⟨yn, yi⟩) _ (by simp)) (cItm_one _) (by unfold maxLen; omega) (by omega) (by simp; omega) ?_; intro v4 w4 own4 grow4 _ hat4; obtain ⟨X1, X2, X3, X4, X5⟩ := KX.out w4 grow4; have z2 : w4.cell? ⟨w3.heap.size, 2, none⟩ = some (.int .i64 j) := X1.cell 2; have z3 : w4.cell? ⟨w3.heap.size, 3, none⟩ = some (.int .i64 k) := X1.cell 3; have C1 := hc1'.out w4 X2; obtain ⟨A4, cap4, rfl, _⟩ := own_open own4; replace X1 := Lib.hid X1; replace X2 := Lib.hid X2; replace X3 := Lib.hid X3)
            have own4' := Lib.hid (hmap.out ▸ own4)
            have sep4 := Lib.hid (show ∀ g, (Value.slice A4 (n8 + 1) cap4).ownBlock = some g → some g ≠ a2 from fun g hg e => by
              rcases hat4 with h | h
              · exact hsep.out g (h ▸ hg) e
              · rw [hg] at h; injection h with h; have := halt3.out g e.symm; simp at h; omega)
            have hD4 := Lib.hid (show (D ++ [(⟨⟨yn, yi⟩, (j : Int), (k : Int)⟩ : It Itm)]).length = n8 + 1 by rw [List.length_append, hD.out]; rfl)
            exact ⟨⟨n8 + 1, A4, cap4, _, _, _, a2, rfl, hD4, by omega, X4, X3, M4, hheap', own4', sep4, hfa2, X2⟩, by simp; omega⟩
end Go.Proofs.Ytilpgojkbgbinaa
