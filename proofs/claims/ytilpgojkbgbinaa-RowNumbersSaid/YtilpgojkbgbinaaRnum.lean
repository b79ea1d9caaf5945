/- RowNumbers: numbers are given once, rising; versions count the changes. -/
import Derived.Test.YtilpgojkbgbinaaStoJ
import Derived.Test.YtilpgojkbgbinaaOpenN
set_option maxRecDepth 100000
set_option linter.unusedVariables false
set_option linter.unusedSimpArgs false
namespace Go.Proofs.Ytilpgojkbgbinaa
open Go.RowKit
open Go.Maps (has size Keyed int_keyed keyOf_int_mk)
attribute [local go_sem] run_frombits run_tobits more_more more_drew more_drewN more_size more_cell more_frozen run_store_float lt_c1 le_c1 lt_s1 le_s1 lt_c2 le_c2 lt_s2 le_s2 lt_c3 le_c3 lt_s3 le_s3 lt_c4 le_c4 lt_s4 le_s4 lt_c5 le_c5 lt_s5 le_s5 lt_c6 le_c6 lt_s6 le_s6 lt_c7 le_c7 lt_s7 le_s7 lt_c8 le_c8 lt_s8 le_s8 lt_c9 le_c9 lt_s9 le_s9 lt_c10 le_c10 lt_s10 le_s10 lt_c11 le_c11 lt_s11 le_s11 lt_c12 le_c12 lt_s12 le_s12 le_c0
def boolsO (f : Nat → Bool) : Array Value := ((List.range 130).map fun i => Value.bool (f i)).toArray
def intsO (f : Nat → Int) : Array Value := ((List.range 130).map fun i => Value.int .i64 (f i)).toArray
def updN {α : Type} (f : Nat → α) (k : Nat) (v : α) : Nat → α := fun x => if x = k then v else f x
theorem bools_get (f : Nat → Bool) {k : Nat} (h : k < 130) : (boolsO f)[k]? = some (.bool (f k)) := by
  unfold boolsO; simp [h]
theorem ints_get (f : Nat → Int) {k : Nat} (h : k < 130) : (intsO f)[k]? = some (.int .i64 (f k)) := by
  unfold intsO; simp [h]
theorem bools_set (f : Nat → Bool) (k : Nat) (b : Bool) : (boolsO f).setIfInBounds k (.bool b) = boolsO (updN f k b) := by
  apply Array.ext_getElem?
  intro j
  rw [Array.getElem?_setIfInBounds]
  unfold boolsO updN
  by_cases h1 : k = j
  · subst h1
    by_cases h2 : k < 130 <;> simp [h2]
  · rw [if_neg h1]
    by_cases h2 : j < 130
    · simp [h2, Ne.symm h1]
    · simp [h2]
theorem ints_set (f : Nat → Int) (k : Nat) (b : Int) : (intsO f).setIfInBounds k (.int .i64 b) = intsO (updN f k b) := by
  apply Array.ext_getElem?
  intro j
  rw [Array.getElem?_setIfInBounds]
  unfold intsO updN
  by_cases h1 : k = j
  · subst h1
    by_cases h2 : k < 130 <;> simp [h2]
  · rw [if_neg h1]
    by_cases h2 : j < 130
    · simp [h2, Ne.symm h1]
    · simp [h2]
theorem zero89 : Try.zeroCells89 = boolsO (fun _ => false) := by first | rfl | kernel_rfl | decide
theorem zero90 : Try.zeroCells90 = intsO (fun _ => 0) := by first | rfl | kernel_rfl | decide
abbrev X9 (b c : Nat) : Nat → Prop := fun k => k = b ∨ k = c
theorem StI.lt9 {X : Nat → Prop} {w0 w : World} {p : Nat} {g : Int → Option Row9} {n : Nat} {mx nx wr : Int} (h : StI X w0 w p g n mx nx wr) : ∀ k, X k → k < w.heap.size := by
  obtain ⟨F, h1, h2, h3, h4⟩ := h
  exact fun k hk => (h4 k hk).1
/-- what stands behind so many rounds: memory -/
structure NM (w wr : World) (p b c : Nat) (i last : Nat) (g : Int → Option Row9) (n : Nat) (wq : Int) (th : Nat → Bool) (ve : Nat → Int) : Prop where
  st : StI (X9 b c) w wr p g n 60 ((last : Int) + 1) wq
  bT : Blk wr b (boolsO th) 89
  bV : Blk wr c (intsO ve) 90
  li : last ≤ i
  wq0 : 0 ≤ wq ∧ wq ≤ i
  bd : ∀ id, 0 ≤ ve id ∧ ve id ≤ i
  wb : w.heap.size ≤ b ∧ w.heap.size ≤ c ∧ b ≠ c
/-- .. what it means -/
structure NL (g : Int → Option Row9) (th : Nat → Bool) (ve : Nat → Int) : Prop where
  hth : ∀ id : Nat, id < 130 → th id = (g (id : Int)).isSome
  hve : ∀ (id : Nat) r, g (id : Int) = some r → r.1 = ve id ∧ r.2.length = 1
section
variable {w W W' : World} {p b c i last n : Nat} {g : Int → Option Row9} {wq : Int} {th : Nat → Bool} {ve : Nat → Int}
theorem NM.below (h : NM w W p b c i last g n wq th ve) (hb : Below W.heap.size W W') : NM w W' p b c i last g n wq th ve :=
  { h with st := h.st.below hb, bT := h.bT.below hb h.bT.lt, bV := h.bV.below hb h.bV.lt }
theorem NM.later (h : NM w W p b c i last g n wq th ve) : NM w W p b c (i + 1) last g n wq th ve :=
  { h with li := by have := h.li; omega, wq0 := by have := h.wq0; omega, bd := fun id => by have := h.bd id; omega }
theorem NM.setT (h : NM w W p b c i last g n wq th ve) (k : Nat) (v : Bool) : NM w (W.setCell ⟨b, k, none⟩ (.bool v)) p b c i last g n wq (updN th k v) ve :=
  { h with
    st := h.st.wrote (Chg.set _ _ (.inl rfl)) (fun k hk => by rcases hk with rfl | rfl; exact h.wb.1; exact h.wb.2.1)
    bT := by rw [← bools_set]; exact h.bT.set k _
    bV := h.bV.set_other h.wb.2.2 _ }
theorem NM.setV (h : NM w W p b c i last g n wq th ve) (k : Nat) (v : Int) (hv : 0 ≤ v ∧ v ≤ i) : NM w (W.setCell ⟨c, k, none⟩ (.int .i64 v)) p b c i last g n wq th (updN ve k v) :=
  { h with
    st := h.st.wrote (Chg.set _ _ (.inr rfl)) (fun k hk => by rcases hk with rfl | rfl; exact h.wb.1; exact h.wb.2.1)
    bT := h.bT.set_other (Ne.symm h.wb.2.2) _
    bV := by rw [← ints_set]; exact h.bV.set k _
    bd := fun id => by unfold updN; split; exact hv; exact h.bd id }
/-- a call of the store between -/
theorem NM.turn (h : NM w W p b c i last g n wq th ve) {g' : Int → Option Row9} {n' last' : Nat} {wq' : Int} (hs : StI (X9 b c) w W' p g' n' 60 ((last' : Int) + 1) wq') (hx : ∀ k, X9 b c k → W'.heap[k]? = W.heap[k]?) (hl : last' ≤ i) (hw : 0 ≤ wq' ∧ wq' ≤ i) : NM w W' p b c i last' g' n' wq' th ve :=
  { h with st := hs, bT := (hx b (.inl rfl)).trans h.bT, bV := (hx c (.inr rfl)).trans h.bV, li := hl, wq0 := hw }
theorem NL.erase (h : NL g th ve) (k : Nat) : NL (upd g (k : Int) none) (updN th k false) ve := by
  refine ⟨fun id hid => ?_, fun id r hr => ?_⟩
  · by_cases e : id = k
    · subst e; simp [upd, updN]
    · have := h.hth id hid
      rw [upd_other _ _ (by omega)]; simp [updN, e, this]
  · by_cases e : id = k
    · subst e; rw [upd_same] at hr; cases hr
    · rw [upd_other _ _ (by omega)] at hr; exact h.hve id r hr
theorem NL.eraseN (h : NL g th ve) (k : Nat) (hk : g (k : Int) = none) : NL g (updN th k false) ve := by
  refine ⟨fun id hid => ?_, h.hve⟩
  by_cases e : id = k
  · subst e; simp [updN, hk]
  · simp [updN, e, h.hth id hid]
theorem NL.insert (h : NL g th ve) (k : Nat) (l : List Val) (hl : l.length = 1) : NL (upd g (k : Int) (some (1, l))) (updN th k true) (updN ve k 1) := by
  refine ⟨fun id hid => ?_, fun id r hr => ?_⟩
  · by_cases e : id = k
    · subst e; simp [upd, updN]
    · rw [upd_other _ _ (by omega)]; simp [updN, e, h.hth id hid]
  · by_cases e : id = k
    · subst e; rw [upd_same] at hr; injection hr with hr; subst hr; simp [updN, hl]
    · rw [upd_other _ _ (by omega)] at hr; have := h.hve id r hr; simp [updN, e]; exact this
theorem NL.replace (h : NL g th ve) (k : Nat) (l : List Val) (hl : l.length = 1) {r : Row9} (hk : g (k : Int) = some r) (hw : wrap64 (r.1 + 1) = ve k + 1) : NL (upd g (k : Int) (some (wrap64 (r.1 + 1), l))) th (updN ve k (ve k + 1)) := by
  refine ⟨fun id hid => ?_, fun id q hr => ?_⟩
  · by_cases e : id = k
    · subst e; rw [upd_same, h.hth id hid, hk]; rfl
    · rw [upd_other _ _ (by omega)]; exact h.hth id hid
  · by_cases e : id = k
    · subst e; rw [upd_same] at hr; injection hr with hr; subst hr; simp [updN, hl, hw]
    · rw [upd_other _ _ (by omega)] at hr; have := h.hve id q hr; simp [updN, e]; exact this
theorem NL.replaceN (h : NL g th ve) (k : Nat) (hk : g (k : Int) = none) (v : Int) : NL g th (updN ve k v) := by
  refine ⟨h.hth, fun id q hr => ?_⟩
  by_cases e : id = k
  · subst e; rw [hk] at hr; cases hr
  · have := h.hve id q hr; simp [updN, e]; exact this
end
set_option maxHeartbeats 8000000 in
theorem walk_RowNumbers (A : Option Addr) (ca : Nat) (l : List Nat) (hl : ∀ n ∈ l, n < 256) (w : World) (la : l.length ≤ 9223372036854775807) (ha : RowIn u8C 1 w A l) :
    Gives Try.prog 10 #[.slice A l.length ca] w (.bool true) := by
  rcases Nat.lt_or_ge 120 l.length with h120 | h120
  · have h1 : (120 : Int) < (l.length : Int) := by omega
    go_enter Try.func10, Try.ntmps10
    go_wp2_with fail
    refine (known9 _).mono' ?_; intro x
    go_wp2
    go_ret
    exact ⟨rfl, (more_of_below (by repeat (first | (with_reducible exact Below.refl _ _) | (with_reducible refine Below.drew ?_) | (with_reducible refine Below.alloc ?_ (by simp [more_size]; try omega) _) | (with_reducible refine Below.setCell ?_ (by simp [more_size]; try omega) _) | (with_reducible refine below_more ?_ _ (by simp [more_size]; try omega)))))⟩
  have h1 : ((120 : Int) < (l.length : Int)) = False := eq_false (by omega)
  clear la
  go_enter Try.func10, Try.ntmps10
  go_wp2_with fail
  refine (known9 _).mono' ?_; intro x
  go_wp2_with fail
  refine (newI (X := fun _ => False) (w0 := w) 60 _ (by repeat (first | (with_reducible exact Below.refl _ _) | (with_reducible refine Below.drew ?_) | (with_reducible refine Below.alloc ?_ (by simp [more_size]; try omega) _) | (with_reducible refine Below.setCell ?_ (by simp [more_size]; try omega) _) | (with_reducible refine below_more ?_ _ (by simp [more_size]; try omega)))) (fun k h => h.elim)).mono ?_
  rintro e w1 ⟨p, rfl, hS, _⟩
  rw [show min (max (60 : Int) 0) 200 = 60 by decide] at hS
  replace hS := Lib.hid hS
  go_wp2_with fail
  refine wp_named9 (R := fun W2 => NM w W2 p w1.heap.size (w1.heap.size + 1) 0 0 (fun _ => none) 0 0 (fun _ => false) (fun _ => 0)) ?_ ?_
  · have hb : Below w1.heap.size w1 ((w1.alloc (.cells Try.zeroCells89 89)).alloc (.cells Try.zeroCells90 90)) := (by repeat (first | (with_reducible exact Below.refl _ _) | (with_reducible refine Below.drew ?_) | (with_reducible refine Below.alloc ?_ (by simp [more_size]; try omega) _) | (with_reducible refine Below.setCell ?_ (by simp [more_size]; try omega) _) | (with_reducible refine below_more ?_ _ (by simp [more_size]; try omega))))
    refine ⟨hS.out.own hb (fun k hk => .inr (by rcases hk with rfl | rfl <;> simp <;> omega)), ?_, ?_, (by omega), (by omega), fun id => (by omega), ⟨hS.out.bel.size, Nat.le_succ_of_le hS.out.bel.size, (by omega)⟩⟩
    · rw [← zero89]; exact (Blk.new _ _ _ rfl).alloc _
    · rw [← zero90]; exact Blk.new _ _ _ (by simp)
  rintro W2 hI
  generalize w1.heap.size = b at *
  obtain ⟨c, hc⟩ : ∃ c, c = b + 1 := ⟨_, rfl⟩
  rw [← hc] at hI ⊢
  replace hc := Lib.hid hc
  replace hI := Lib.hid hI
  have hA := Lib.hid ha
  clear hS ha
  go_wp2
  go_loopw [6, 7] (fun t6 t7 wr => ∃ (i last : Nat) (g : Int → Option Row9) (n : Nat) (wq : Int) (th : Nat → Bool) (ve : Nat → Int), t6 = .int .i64 last ∧ t7 = .int .i64 i ∧ i ≤ l.length ∧ Hid (NM w wr p b c i last g n wq th ve) ∧ Hid (NL g th ve)) (fun _ t7 _ => l.length - (intOf t7).toNat)
  case atStart => exact ⟨0, 0, _, _, _, _, _, rfl, rfl, by omega, hI, Lib.hid ⟨fun id _ => rfl, fun id r h => by cases h⟩⟩
  case round =>
    obtain ⟨i, last, g, n, wq, th, ve, rfl, rfl, hi, hN, hL⟩ := hrel
    clear hI
    by_cases hlt : i < l.length
    · have hlt' : (i : Int) < (l.length : Int) := by omega
      obtain ⟨b1, off, rfl, hb1, hcells⟩ := hA.out i hlt
      have x0 := hcells i hlt 0 _ rfl
      have y0 := (hN.out.st.bel.cell (p := ⟨b1, off + i * 1 + 0, none⟩) hb1).trans x0
      rw [Nat.add_zero, Nat.mul_one] at y0
      have hv := hl _ (List.getElem_mem hlt)
      generalize l[i] = v at *
      clear hcells x0
      have hli := hN.out.li
      have hm1 := Int.emod_nonneg ((v : Int) / 4) (show ((last : Int) + 1) ≠ 0 by omega)
      have hm2 := Int.emod_lt_of_pos ((v : Int) / 4) (show 0 < ((last : Int) + 1) by omega)
      rcases (show (v : Int) % 4 = 2 ∨ (v : Int) % 4 = 3 ∨ (v : Int) % 4 = 0 ∨ (v : Int) % 4 = 1 by omega) with h4 | h4 | h4 | h4
      · go_wp2_with fail
        generalize hQ : (v : Int) / 4 % ((last : Int) + 1) = Q at *
        obtain ⟨q, rfl⟩ : ∃ q : Nat, Q = q := ⟨Q.toNat, by omega⟩
        clear hQ
        have hq : q ≤ last := by omega
        clear hm1 hm2
        have hq2 : (q : Int) + 1 < 130 := by omega
        have hq0 : (0 : Int) ≤ (q : Int) + 1 := by omega
        have hqn : ((q : Int) + 1).toNat = q + 1 := by omega
        have hqc : ((q + 1 : Nat) : Int) = (q : Int) + 1 := by omega
        replace hqc := Lib.hid hqc
        have wfq : (Lit.int .i64 ((q : Int) + 1)).wf = true := WalkArith.wf_i64 (by omega)
        have hkT : wr.cell? ⟨b, q + 1, none⟩ = some (.bool (th (q + 1))) := by rw [hN.out.bT.cell, bools_get _ (by omega)]
        have hfT := hN.out.bT.free (q + 1)
        have hkV : wr.cell? ⟨c, q + 1, none⟩ = some (.int .i64 (ve (q + 1))) := by rw [hN.out.bV.cell, ints_get _ (by omega)]
        have hfV := hN.out.bV.free (q + 1)
        have hTq := hL.out.hth (q + 1) (by omega)
        rw [hqc.out] at hTq
        have hbl := hN.out.bT.lt
        have hcl := hN.out.bV.lt
        cases hgq : g ((q : Int) + 1) with
        | none =>
          rw [hgq] at hTq
          rw [show th (q + 1) = false from hTq] at hkT
          have EN := Lib.hid (fun W (h : Below wr.heap.size wr W) => eraseI_no (hN.out.st.below h) wfq hgq)
          have hL2 := Lib.hid (hL.out.eraseN (q + 1) (by rw [hqc.out]; exact hgq))
          clear hgq
          go_region_law (first | (go_simp; go_at_call 37; refine (EN.out _ (by repeat (first | (with_reducible exact Below.refl _ _) | (with_reducible refine Below.drew ?_) | (with_reducible refine Below.alloc ?_ (by simp [more_size]; try omega) _) | (with_reducible refine Below.setCell ?_ (by simp [more_size]; try omega) _) | (with_reducible refine below_more ?_ _ (by simp [more_size]; try omega))))).mono ?_; rintro e w' ⟨rfl, rfl⟩))
          all_goals
            go_simp
            go_wp2_with fail
            refine calls_at (R := fun W => NM w W p b c (i + 1) last g n wq (updN th (q + 1) false) ve) ?_ ?_
            · first | exact ((hN.out.later.below (by repeat (first | (with_reducible exact Below.refl _ _) | (with_reducible refine Below.drew ?_) | (with_reducible refine Below.alloc ?_ (by simp [more_size]; try omega) _) | (with_reducible refine Below.setCell ?_ (by simp [more_size]; try omega) _) | (with_reducible refine below_more ?_ _ (by simp [more_size]; try omega))))).setT (q + 1) false) | exact ((hN.out.later.setT (q + 1) false).below (by repeat (first | (with_reducible exact Below.refl _ _) | (with_reducible refine Below.drew ?_) | (with_reducible refine Below.alloc ?_ (by simp [more_size]; try omega) _) | (with_reducible refine Below.setCell ?_ (by simp [more_size]; try omega) _) | (with_reducible refine below_more ?_ _ (by simp [more_size]; try omega)))))
            rintro W hM
            replace hM := Lib.hid hM
            clear hkT hfT hkV hfV hTq hbl hcl hN hL y0 EN
            obtain ⟨G, hG⟩ : ∃ G, G = g := ⟨_, rfl⟩
            rw [← hG] at hM hL2
            clear hG
            generalize (updN th (q + 1) false) = TH at *
            obtain ⟨VE, hG⟩ : ∃ G, G = ve := ⟨_, rfl⟩
            rw [← hG] at hM hL2
            clear hG
            cases hgg : G ((q : Int) + 1) with
            | none =>
              have t0 : TH (q + 1) = false := by
                rw [hL2.out.hth (q + 1) (by omega), hqc.out, hgg]; rfl
              refine (getI_none hM.out.st wfq hgg).mono ?_
              rintro e W8 ⟨rfl, hB8⟩
              have hM8 := Lib.hid (hM.out.below hB8)
              have d1 : W8.cell? ⟨b, q + 1, none⟩ = some (.bool false) := by rw [hM8.out.bT.cell, bools_get _ (by omega), t0]
              have dl := hM8.out.bT.lt
              clear hM hB8 t0 hgg wfq
              go_wp2_with fail
              go_region
              go_wp2
              exact ⟨⟨i + 1, last, _, _, _, _, _, by go_num, by go_num, by omega, Lib.hid (hM8.out.below (by repeat (first | (with_reducible exact Below.refl _ _) | (with_reducible refine Below.drew ?_) | (with_reducible refine Below.alloc ?_ (by simp [more_size]; try omega) _) | (with_reducible refine Below.setCell ?_ (by simp [more_size]; try omega) _) | (with_reducible refine below_more ?_ _ (by simp [more_size]; try omega))))), hL2⟩, by simp [intOf]; omega⟩
            | some r =>
              obtain ⟨hr1, hr2⟩ := hL2.out.hve (q + 1) r (by rw [hqc.out]; exact hgg)
              have t0 : TH (q + 1) = true := by
                rw [hL2.out.hth (q + 1) (by omega), hqc.out, hgg]; rfl
              refine (getI_some hM.out.st wfq hgg (by omega)).mono ?_
              rintro e W8 ⟨ga, cq, rfl, _, _, _, hB8⟩
              rw [hr1, hr2]
              have hM8 := Lib.hid (hM.out.below hB8)
              have d1 : W8.cell? ⟨b, q + 1, none⟩ = some (.bool true) := by rw [hM8.out.bT.cell, bools_get _ (by omega), t0]
              have d2 : W8.cell? ⟨c, q + 1, none⟩ = some (.int .i64 (VE (q + 1))) := by rw [hM8.out.bV.cell, ints_get _ (by omega)]
              have dl := hM8.out.bT.lt
              have dm := hM8.out.bV.lt
              clear hM hB8 t0 hgg wfq hr1 hr2
              generalize VE (q + 1) = ver at *
              go_wp2_with fail
              go_region
              go_wp2
              exact ⟨⟨i + 1, last, _, _, _, _, _, by go_num, by go_num, by omega, Lib.hid (hM8.out.below (by repeat (first | (with_reducible exact Below.refl _ _) | (with_reducible refine Below.drew ?_) | (with_reducible refine Below.alloc ?_ (by simp [more_size]; try omega) _) | (with_reducible refine Below.setCell ?_ (by simp [more_size]; try omega) _) | (with_reducible refine below_more ?_ _ (by simp [more_size]; try omega))))), hL2⟩, by simp [intOf]; omega⟩
        | some r =>
          rw [hgq] at hTq
          rw [show th (q + 1) = true from hTq] at hkT
          have ES := Lib.hid (fun W (h : Below wr.heap.size wr W) => eraseI (hN.out.st.below h) wfq (by have := hN.out.wq0; omega) (show g ((q : Int) + 1) ≠ none by rw [hgq]; simp))
          have hL2 := Lib.hid (hL.out.erase (q + 1))
          rw [hqc.out] at hL2
          clear hgq
          go_region_law (first | (go_simp; go_at_call 37; refine (ES.out _ (by repeat (first | (with_reducible exact Below.refl _ _) | (with_reducible refine Below.drew ?_) | (with_reducible refine Below.alloc ?_ (by simp [more_size]; try omega) _) | (with_reducible refine Below.setCell ?_ (by simp [more_size]; try omega) _) | (with_reducible refine below_more ?_ _ (by simp [more_size]; try omega))))).mono ?_; rintro e w3 ⟨rfl, hS3, _, hX3⟩; have k3 : w3.cell? ⟨b, q + 1, none⟩ = some (.bool true) := (World.cell?_of_block (w := wr) (a := ⟨b, q + 1, none⟩) (hX3 b (.inl rfl))).trans hkT; have f3 : w3.frozen? ⟨b, q + 1, none⟩ = false := (World.frozen?_of_block (w := wr) (a := ⟨b, q + 1, none⟩) (hX3 b (.inl rfl))).trans hfT))
          all_goals
            have hM3 := Lib.hid (hN.out.later.turn hS3 hX3 (by have := hN.out.li; omega) (by have := hN.out.wq0; omega))
            clear hS3 hX3
            go_simp
            go_wp2_with fail
            refine calls_at (R := fun W => NM w W p b c (i + 1) last (upd g ((q : Int) + 1) none) (n - 1) (wq + 1) (updN th (q + 1) false) ve) ?_ ?_
            · first | exact ((hM3.out.below (by repeat (first | (with_reducible exact Below.refl _ _) | (with_reducible refine Below.drew ?_) | (with_reducible refine Below.alloc ?_ (by simp [more_size]; try omega) _) | (with_reducible refine Below.setCell ?_ (by simp [more_size]; try omega) _) | (with_reducible refine below_more ?_ _ (by simp [more_size]; try omega))))).setT (q + 1) false) | exact ((hM3.out.setT (q + 1) false).below (by repeat (first | (with_reducible exact Below.refl _ _) | (with_reducible refine Below.drew ?_) | (with_reducible refine Below.alloc ?_ (by simp [more_size]; try omega) _) | (with_reducible refine Below.setCell ?_ (by simp [more_size]; try omega) _) | (with_reducible refine below_more ?_ _ (by simp [more_size]; try omega)))))
            rintro W hM
            replace hM := Lib.hid hM
            clear hkT hfT hkV hfV hTq hbl hcl hN hL y0 ES hM3 k3 f3
            generalize (upd g ((q : Int) + 1) none) = G at *
            generalize (updN th (q + 1) false) = TH at *
            obtain ⟨VE, hG⟩ : ∃ G, G = ve := ⟨_, rfl⟩
            rw [← hG] at hM hL2
            clear hG
            cases hgg : G ((q : Int) + 1) with
            | none =>
              have t0 : TH (q + 1) = false := by
                rw [hL2.out.hth (q + 1) (by omega), hqc.out, hgg]; rfl
              refine (getI_none hM.out.st wfq hgg).mono ?_
              rintro e W8 ⟨rfl, hB8⟩
              have hM8 := Lib.hid (hM.out.below hB8)
              have d1 : W8.cell? ⟨b, q + 1, none⟩ = some (.bool false) := by rw [hM8.out.bT.cell, bools_get _ (by omega), t0]
              have dl := hM8.out.bT.lt
              clear hM hB8 t0 hgg wfq
              go_wp2_with fail
              go_region
              go_wp2
              exact ⟨⟨i + 1, last, _, _, _, _, _, by go_num, by go_num, by omega, Lib.hid (hM8.out.below (by repeat (first | (with_reducible exact Below.refl _ _) | (with_reducible refine Below.drew ?_) | (with_reducible refine Below.alloc ?_ (by simp [more_size]; try omega) _) | (with_reducible refine Below.setCell ?_ (by simp [more_size]; try omega) _) | (with_reducible refine below_more ?_ _ (by simp [more_size]; try omega))))), hL2⟩, by simp [intOf]; omega⟩
            | some r =>
              obtain ⟨hr1, hr2⟩ := hL2.out.hve (q + 1) r (by rw [hqc.out]; exact hgg)
              have t0 : TH (q + 1) = true := by
                rw [hL2.out.hth (q + 1) (by omega), hqc.out, hgg]; rfl
              refine (getI_some hM.out.st wfq hgg (by omega)).mono ?_
              rintro e W8 ⟨ga, cq, rfl, _, _, _, hB8⟩
              rw [hr1, hr2]
              have hM8 := Lib.hid (hM.out.below hB8)
              have d1 : W8.cell? ⟨b, q + 1, none⟩ = some (.bool true) := by rw [hM8.out.bT.cell, bools_get _ (by omega), t0]
              have d2 : W8.cell? ⟨c, q + 1, none⟩ = some (.int .i64 (VE (q + 1))) := by rw [hM8.out.bV.cell, ints_get _ (by omega)]
              have dl := hM8.out.bT.lt
              have dm := hM8.out.bV.lt
              clear hM hB8 t0 hgg wfq hr1 hr2
              generalize VE (q + 1) = ver at *
              go_wp2_with fail
              go_region
              go_wp2
              exact ⟨⟨i + 1, last, _, _, _, _, _, by go_num, by go_num, by omega, Lib.hid (hM8.out.below (by repeat (first | (with_reducible exact Below.refl _ _) | (with_reducible refine Below.drew ?_) | (with_reducible refine Below.alloc ?_ (by simp [more_size]; try omega) _) | (with_reducible refine Below.setCell ?_ (by simp [more_size]; try omega) _) | (with_reducible refine below_more ?_ _ (by simp [more_size]; try omega))))), hL2⟩, by simp [intOf]; omega⟩
      · go_wp2_with fail
        generalize hQ : (v : Int) / 4 % ((last : Int) + 1) = Q at *
        obtain ⟨q, rfl⟩ : ∃ q : Nat, Q = q := ⟨Q.toNat, by omega⟩
        clear hQ
        have hq : q ≤ last := by omega
        clear hm1 hm2
        have hq2 : (q : Int) + 1 < 130 := by omega
        have hq0 : (0 : Int) ≤ (q : Int) + 1 := by omega
        have hqn : ((q : Int) + 1).toNat = q + 1 := by omega
        have hqc : ((q + 1 : Nat) : Int) = (q : Int) + 1 := by omega
        replace hqc := Lib.hid hqc
        have wfq : (Lit.int .i64 ((q : Int) + 1)).wf = true := WalkArith.wf_i64 (by omega)
        have hkT : wr.cell? ⟨b, q + 1, none⟩ = some (.bool (th (q + 1))) := by rw [hN.out.bT.cell, bools_get _ (by omega)]
        have hfT := hN.out.bT.free (q + 1)
        have hkV : wr.cell? ⟨c, q + 1, none⟩ = some (.int .i64 (ve (q + 1))) := by rw [hN.out.bV.cell, ints_get _ (by omega)]
        have hfV := hN.out.bV.free (q + 1)
        have hTq := hL.out.hth (q + 1) (by omega)
        rw [hqc.out] at hTq
        have hbl := hN.out.bT.lt
        have hcl := hN.out.bV.lt
        have hvb := hN.out.bd (q + 1)
        cases hgq : g ((q : Int) + 1) with
        | none =>
          rw [hgq] at hTq
          rw [show th (q + 1) = false from hTq] at hkT
          have RN := Lib.hid (fun W (h : Below wr.heap.size wr W) v => replaceI_no (hN.out.st.below h) wfq v hgq)
          have hL2 := Lib.hid (hL.out.replaceN (q + 1) (by rw [hqc.out]; exact hgq) (ve (q + 1) + 1))
          clear hgq
          go_region_law (first | (go_simp; go_at_call 35; refine (num9_any _ _).mono ?_; rintro e w' ⟨rfl, rfl⟩) | (go_simp; go_at_call 54; refine (RN.out _ (by repeat (first | (with_reducible exact Below.refl _ _) | (with_reducible refine Below.drew ?_) | (with_reducible refine Below.alloc ?_ (by simp [more_size]; try omega) _) | (with_reducible refine Below.setCell ?_ (by simp [more_size]; try omega) _) | (with_reducible refine below_more ?_ _ (by simp [more_size]; try omega)))) _).mono ?_; rintro e w' ⟨rfl, rfl⟩))
          all_goals
            go_simp
            go_wp2_with fail
            refine calls_at (R := fun W => NM w W p b c (i + 1) last g n wq th (updN ve (q + 1) (ve (q + 1) + 1))) ?_ ?_
            · first | exact ((hN.out.later.below (by repeat (first | (with_reducible exact Below.refl _ _) | (with_reducible refine Below.drew ?_) | (with_reducible refine Below.alloc ?_ (by simp [more_size]; try omega) _) | (with_reducible refine Below.setCell ?_ (by simp [more_size]; try omega) _) | (with_reducible refine below_more ?_ _ (by simp [more_size]; try omega))))).setV (q + 1) (ve (q + 1) + 1) (by omega)) | exact ((hN.out.later.setV (q + 1) (ve (q + 1) + 1) (by omega)).below (by repeat (first | (with_reducible exact Below.refl _ _) | (with_reducible refine Below.drew ?_) | (with_reducible refine Below.alloc ?_ (by simp [more_size]; try omega) _) | (with_reducible refine Below.setCell ?_ (by simp [more_size]; try omega) _) | (with_reducible refine below_more ?_ _ (by simp [more_size]; try omega)))))
            rintro W hM
            replace hM := Lib.hid hM
            clear hkT hfT hkV hfV hTq hbl hcl hN hL y0 RN hvb
            obtain ⟨G, hG⟩ : ∃ G, G = g := ⟨_, rfl⟩
            rw [← hG] at hM hL2
            clear hG
            obtain ⟨TH, hG⟩ : ∃ G, G = th := ⟨_, rfl⟩
            rw [← hG] at hM hL2
            clear hG
            generalize (updN ve (q + 1) (ve (q + 1) + 1)) = VE at *
            cases hgg : G ((q : Int) + 1) with
            | none =>
              have t0 : TH (q + 1) = false := by
                rw [hL2.out.hth (q + 1) (by omega), hqc.out, hgg]; rfl
              refine (getI_none hM.out.st wfq hgg).mono ?_
              rintro e W8 ⟨rfl, hB8⟩
              have hM8 := Lib.hid (hM.out.below hB8)
              have d1 : W8.cell? ⟨b, q + 1, none⟩ = some (.bool false) := by rw [hM8.out.bT.cell, bools_get _ (by omega), t0]
              have dl := hM8.out.bT.lt
              clear hM hB8 t0 hgg wfq
              go_wp2_with fail
              go_region
              go_wp2
              exact ⟨⟨i + 1, last, _, _, _, _, _, by go_num, by go_num, by omega, Lib.hid (hM8.out.below (by repeat (first | (with_reducible exact Below.refl _ _) | (with_reducible refine Below.drew ?_) | (with_reducible refine Below.alloc ?_ (by simp [more_size]; try omega) _) | (with_reducible refine Below.setCell ?_ (by simp [more_size]; try omega) _) | (with_reducible refine below_more ?_ _ (by simp [more_size]; try omega))))), hL2⟩, by simp [intOf]; omega⟩
            | some r =>
              obtain ⟨hr1, hr2⟩ := hL2.out.hve (q + 1) r (by rw [hqc.out]; exact hgg)
              have t0 : TH (q + 1) = true := by
                rw [hL2.out.hth (q + 1) (by omega), hqc.out, hgg]; rfl
              refine (getI_some hM.out.st wfq hgg (by omega)).mono ?_
              rintro e W8 ⟨ga, cq, rfl, _, _, _, hB8⟩
              rw [hr1, hr2]
              have hM8 := Lib.hid (hM.out.below hB8)
              have d1 : W8.cell? ⟨b, q + 1, none⟩ = some (.bool true) := by rw [hM8.out.bT.cell, bools_get _ (by omega), t0]
              have d2 : W8.cell? ⟨c, q + 1, none⟩ = some (.int .i64 (VE (q + 1))) := by rw [hM8.out.bV.cell, ints_get _ (by omega)]
              have dl := hM8.out.bT.lt
              have dm := hM8.out.bV.lt
              clear hM hB8 t0 hgg wfq hr1 hr2
              generalize VE (q + 1) = ver at *
              go_wp2_with fail
              go_region
              go_wp2
              exact ⟨⟨i + 1, last, _, _, _, _, _, by go_num, by go_num, by omega, Lib.hid (hM8.out.below (by repeat (first | (with_reducible exact Below.refl _ _) | (with_reducible refine Below.drew ?_) | (with_reducible refine Below.alloc ?_ (by simp [more_size]; try omega) _) | (with_reducible refine Below.setCell ?_ (by simp [more_size]; try omega) _) | (with_reducible refine below_more ?_ _ (by simp [more_size]; try omega))))), hL2⟩, by simp [intOf]; omega⟩
        | some r =>
          rw [hgq] at hTq
          rw [show th (q + 1) = true from hTq] at hkT
          obtain ⟨hr1, _⟩ := hL.out.hve (q + 1) r (by rw [hqc.out]; exact hgq)
          have hwr1 : wrap64 (r.1 + 1) = ve (q + 1) + 1 := by rw [hr1]; unfold wrap64; omega
          have RS := Lib.hid (fun W (h : Below wr.heap.size wr W) => replaceI_ok (hN.out.st.below (h.alloc h.size (numO i))) wfq (some ⟨W.heap.size, 0, none⟩) 1 (numL i) (by simp [numL]) (fun e => by cases e) (numIn i W) (by have := hN.out.wq0; omega) hgq)
          have hL2 := Lib.hid (hL.out.replace (q + 1) (numL i) rfl (by rw [hqc.out]; exact hgq) hwr1)
          rw [hwr1] at hL2 RS
          rw [hqc.out] at hL2
          clear hgq hwr1 hr1
          go_region_law (first | (go_simp; go_at_call 35; refine (num9_any _ _).mono ?_; rintro e w' ⟨rfl, rfl⟩) | (go_simp; go_at_call 54; refine (RS.out wr.drew (Below.drew (Below.refl _ _))).mono ?_; rintro e w3 ⟨rfl, hS3, hX3⟩; replace hX3 : ∀ k, X9 b c k → w3.heap[k]? = wr.heap[k]? := fun k hk => (hX3 k hk).trans (Below.heap_alloc _ _ _ (hN.out.st.lt9 k hk)); have k3 : w3.cell? ⟨b, q + 1, none⟩ = some (.bool true) := (World.cell?_of_block (w := wr) (a := ⟨b, q + 1, none⟩) (hX3 b (.inl rfl))).trans hkT; have k4 : w3.cell? ⟨c, q + 1, none⟩ = some (.int .i64 (ve (q + 1))) := (World.cell?_of_block (w := wr) (a := ⟨c, q + 1, none⟩) (hX3 c (.inr rfl))).trans hkV; have f4 : w3.frozen? ⟨c, q + 1, none⟩ = false := (World.frozen?_of_block (w := wr) (a := ⟨c, q + 1, none⟩) (hX3 c (.inr rfl))).trans hfV))
          all_goals
            have hM3 := Lib.hid (hN.out.later.turn hS3 hX3 (by have := hN.out.li; omega) (by have := hN.out.wq0; omega))
            clear hS3 hX3
            go_simp
            go_wp2_with fail
            refine calls_at (R := fun W => NM w W p b c (i + 1) last (upd g ((q : Int) + 1) (some (ve (q + 1) + 1, numL i))) n (wq + 1) th (updN ve (q + 1) (ve (q + 1) + 1))) ?_ ?_
            · first | exact ((hM3.out.below (by repeat (first | (with_reducible exact Below.refl _ _) | (with_reducible refine Below.drew ?_) | (with_reducible refine Below.alloc ?_ (by simp [more_size]; try omega) _) | (with_reducible refine Below.setCell ?_ (by simp [more_size]; try omega) _) | (with_reducible refine below_more ?_ _ (by simp [more_size]; try omega))))).setV (q + 1) (ve (q + 1) + 1) (by omega)) | exact ((hM3.out.setV (q + 1) (ve (q + 1) + 1) (by omega)).below (by repeat (first | (with_reducible exact Below.refl _ _) | (with_reducible refine Below.drew ?_) | (with_reducible refine Below.alloc ?_ (by simp [more_size]; try omega) _) | (with_reducible refine Below.setCell ?_ (by simp [more_size]; try omega) _) | (with_reducible refine below_more ?_ _ (by simp [more_size]; try omega)))))
            rintro W hM
            replace hM := Lib.hid hM
            clear hkT hfT hkV hfV hTq hbl hcl hN hL y0 RS hM3 k3 k4 f4 hvb
            generalize (upd g ((q : Int) + 1) (some (ve (q + 1) + 1, numL i))) = G at *
            obtain ⟨TH, hG⟩ : ∃ G, G = th := ⟨_, rfl⟩
            rw [← hG] at hM hL2
            clear hG
            generalize (updN ve (q + 1) (ve (q + 1) + 1)) = VE at *
            cases hgg : G ((q : Int) + 1) with
            | none =>
              have t0 : TH (q + 1) = false := by
                rw [hL2.out.hth (q + 1) (by omega), hqc.out, hgg]; rfl
              refine (getI_none hM.out.st wfq hgg).mono ?_
              rintro e W8 ⟨rfl, hB8⟩
              have hM8 := Lib.hid (hM.out.below hB8)
              have d1 : W8.cell? ⟨b, q + 1, none⟩ = some (.bool false) := by rw [hM8.out.bT.cell, bools_get _ (by omega), t0]
              have dl := hM8.out.bT.lt
              clear hM hB8 t0 hgg wfq
              go_wp2_with fail
              go_region
              go_wp2
              exact ⟨⟨i + 1, last, _, _, _, _, _, by go_num, by go_num, by omega, Lib.hid (hM8.out.below (by repeat (first | (with_reducible exact Below.refl _ _) | (with_reducible refine Below.drew ?_) | (with_reducible refine Below.alloc ?_ (by simp [more_size]; try omega) _) | (with_reducible refine Below.setCell ?_ (by simp [more_size]; try omega) _) | (with_reducible refine below_more ?_ _ (by simp [more_size]; try omega))))), hL2⟩, by simp [intOf]; omega⟩
            | some r =>
              obtain ⟨hr1, hr2⟩ := hL2.out.hve (q + 1) r (by rw [hqc.out]; exact hgg)
              have t0 : TH (q + 1) = true := by
                rw [hL2.out.hth (q + 1) (by omega), hqc.out, hgg]; rfl
              refine (getI_some hM.out.st wfq hgg (by omega)).mono ?_
              rintro e W8 ⟨ga, cq, rfl, _, _, _, hB8⟩
              rw [hr1, hr2]
              have hM8 := Lib.hid (hM.out.below hB8)
              have d1 : W8.cell? ⟨b, q + 1, none⟩ = some (.bool true) := by rw [hM8.out.bT.cell, bools_get _ (by omega), t0]
              have d2 : W8.cell? ⟨c, q + 1, none⟩ = some (.int .i64 (VE (q + 1))) := by rw [hM8.out.bV.cell, ints_get _ (by omega)]
              have dl := hM8.out.bT.lt
              have dm := hM8.out.bV.lt
              clear hM hB8 t0 hgg wfq hr1 hr2
              generalize VE (q + 1) = ver at *
              go_wp2_with fail
              go_region
              go_wp2
              exact ⟨⟨i + 1, last, _, _, _, _, _, by go_num, by go_num, by omega, Lib.hid (hM8.out.below (by repeat (first | (with_reducible exact Below.refl _ _) | (with_reducible refine Below.drew ?_) | (with_reducible refine Below.alloc ?_ (by simp [more_size]; try omega) _) | (with_reducible refine Below.setCell ?_ (by simp [more_size]; try omega) _) | (with_reducible refine below_more ?_ _ (by simp [more_size]; try omega))))), hL2⟩, by simp [intOf]; omega⟩
      · go_wp2_with fail
        generalize hQ : (v : Int) / 4 % ((last : Int) + 1) = Q at *
        obtain ⟨q, rfl⟩ : ∃ q : Nat, Q = q := ⟨Q.toNat, by omega⟩
        clear hQ
        have hq : q ≤ last := by omega
        clear hm1 hm2
        have hq2 : (q : Int) + 1 < 130 := by omega
        have hq0 : (0 : Int) ≤ (q : Int) + 1 := by omega
        have hqn : ((q : Int) + 1).toNat = q + 1 := by omega
        have hqc : ((q + 1 : Nat) : Int) = (q : Int) + 1 := by omega
        replace hqc := Lib.hid hqc
        have wfq : (Lit.int .i64 ((q : Int) + 1)).wf = true := WalkArith.wf_i64 (by omega)
        have hkT : wr.cell? ⟨b, q + 1, none⟩ = some (.bool (th (q + 1))) := by rw [hN.out.bT.cell, bools_get _ (by omega)]
        have hfT := hN.out.bT.free (q + 1)
        have hkV : wr.cell? ⟨c, q + 1, none⟩ = some (.int .i64 (ve (q + 1))) := by rw [hN.out.bV.cell, ints_get _ (by omega)]
        have hfV := hN.out.bV.free (q + 1)
        have hTq := hL.out.hth (q + 1) (by omega)
        rw [hqc.out] at hTq
        have hbl := hN.out.bT.lt
        have hcl := hN.out.bV.lt
        refine (num9_any _ _).mono ?_; rintro e w' ⟨rfl, rfl⟩
        have hn60 := hN.out.st.le
        by_cases hn : (n : Int) < 60
        · have IN := Lib.hid (insertI hN.out.st i (by omega) (by have := hN.out.wq0; omega) hn)
          have hlc : ((last + 1 : Nat) : Int) = (last : Int) + 1 := by omega
          have hL2 := Lib.hid (hL.out.insert (last + 1) (numL i) rfl)
          rw [hlc] at hL2
          clear hlc
          go_wp2_with fail
          refine IN.out.mono ?_
          rintro e w3 ⟨rfl, hS3, hX3⟩
          have LN := Lib.hid (lenI hS3)
          have hl0 : (0 : Int) ≤ (last : Int) + 1 := by omega
          have hl1 : (last : Int) + 1 < 130 := by omega
          have hl2 : ((last : Int) + 1).toNat = last + 1 := by omega
          have hM3 := Lib.hid (hN.out.later.turn (last' := last + 1) hS3 hX3 (by have := hN.out.li; omega) (by have := hN.out.wq0; omega))
          have k3 : w3.cell? ⟨b, last + 1, none⟩ = some (.bool (th (last + 1))) := by rw [hM3.out.bT.cell, bools_get _ (by omega)]
          have f3 := hM3.out.bT.free (last + 1)
          have k4 : w3.cell? ⟨c, last + 1, none⟩ = some (.int .i64 (ve (last + 1))) := by rw [hM3.out.bV.cell, ints_get _ (by omega)]
          have f4 := hM3.out.bV.free (last + 1)
          have hbc := hM3.out.wb.2.2
          have hn9 : ((60 : Int) < ((n + 1 : Nat) : Int)) = False := eq_false (by omega)
          have hn8 : ((60 : Int) < (n : Int) + 1) = False := eq_false (by omega)
          clear IN hS3 hX3
          go_wp2_with fail
          refine LN.out.mono ?_; rintro e w' ⟨rfl, rfl⟩
          clear LN
          go_wp2_with fail
          refine calls_at (R := fun W => NM w W p b c (i + 1) (last + 1) (upd g ((last : Int) + 1) (some (1, numL i))) (n + 1) (wq + 1) (updN th (last + 1) true) (updN ve (last + 1) 1)) ?_ ?_
          · exact ((hM3.out.setT (last + 1) true).setV (last + 1) 1 (by omega))
          rintro W hM
          replace hM := Lib.hid hM
          clear hkT hfT hkV hfV hTq hbl hcl hN hL y0 hM3 k3 f3 k4 f4 hbc hn9 hn8 hn hn60
          generalize (upd g ((last : Int) + 1) (some (1, numL i))) = G at *
          generalize (updN th (last + 1) true) = TH at *
          generalize (updN ve (last + 1) 1) = VE at *
          cases hgg : G ((q : Int) + 1) with
          | none =>
            have t0 : TH (q + 1) = false := by
              rw [hL2.out.hth (q + 1) (by omega), hqc.out, hgg]; rfl
            refine (getI_none hM.out.st wfq hgg).mono ?_
            rintro e W8 ⟨rfl, hB8⟩
            have hM8 := Lib.hid (hM.out.below hB8)
            have d1 : W8.cell? ⟨b, q + 1, none⟩ = some (.bool false) := by rw [hM8.out.bT.cell, bools_get _ (by omega), t0]
            have dl := hM8.out.bT.lt
            clear hM hB8 t0 hgg wfq
            go_wp2_with fail
            go_region
            go_wp2
            exact ⟨⟨i + 1, (last + 1), _, _, _, _, _, by go_num, by go_num, by omega, Lib.hid (hM8.out.below (by repeat (first | (with_reducible exact Below.refl _ _) | (with_reducible refine Below.drew ?_) | (with_reducible refine Below.alloc ?_ (by simp [more_size]; try omega) _) | (with_reducible refine Below.setCell ?_ (by simp [more_size]; try omega) _) | (with_reducible refine below_more ?_ _ (by simp [more_size]; try omega))))), hL2⟩, by simp [intOf]; omega⟩
          | some r =>
            obtain ⟨hr1, hr2⟩ := hL2.out.hve (q + 1) r (by rw [hqc.out]; exact hgg)
            have t0 : TH (q + 1) = true := by
              rw [hL2.out.hth (q + 1) (by omega), hqc.out, hgg]; rfl
            refine (getI_some hM.out.st wfq hgg (by omega)).mono ?_
            rintro e W8 ⟨ga, cq, rfl, _, _, _, hB8⟩
            rw [hr1, hr2]
            have hM8 := Lib.hid (hM.out.below hB8)
            have d1 : W8.cell? ⟨b, q + 1, none⟩ = some (.bool true) := by rw [hM8.out.bT.cell, bools_get _ (by omega), t0]
            have d2 : W8.cell? ⟨c, q + 1, none⟩ = some (.int .i64 (VE (q + 1))) := by rw [hM8.out.bV.cell, ints_get _ (by omega)]
            have dl := hM8.out.bT.lt
            have dm := hM8.out.bV.lt
            clear hM hB8 t0 hgg wfq hr1 hr2
            generalize VE (q + 1) = ver at *
            go_wp2_with fail
            go_region
            go_wp2
            exact ⟨⟨i + 1, (last + 1), _, _, _, _, _, by go_num, by go_num, by omega, Lib.hid (hM8.out.below (by repeat (first | (with_reducible exact Below.refl _ _) | (with_reducible refine Below.drew ?_) | (with_reducible refine Below.alloc ?_ (by simp [more_size]; try omega) _) | (with_reducible refine Below.setCell ?_ (by simp [more_size]; try omega) _) | (with_reducible refine below_more ?_ _ (by simp [more_size]; try omega))))), hL2⟩, by simp [intOf]; omega⟩
        · have IN := Lib.hid (insertI_no hN.out.st i (by omega) (by omega))
          have hL2 := hL
          go_wp2_with fail
          refine IN.out.mono ?_
          rintro e w3 ⟨rfl, hS3, hX3⟩
          have LN := Lib.hid (lenI hS3)
          have hM3 := Lib.hid (hN.out.later.turn hS3 hX3 (by have := hN.out.li; omega) (by have := hN.out.wq0; omega))
          have hn9 : ((60 : Int) < (n : Int)) = False := eq_false (by omega)
          clear IN hS3 hX3
          go_wp2_with fail
          refine LN.out.mono ?_; rintro e w' ⟨rfl, rfl⟩
          clear LN
          go_wp2_with fail
          refine calls_at (R := fun W => NM w W p b c (i + 1) last g n wq th ve) ?_ ?_
          · exact hM3.out
          rintro W hM
          replace hM := Lib.hid hM
          clear hkT hfT hkV hfV hTq hbl hcl hN hL y0 hM3 hn9 hn hn60
          obtain ⟨G, hG⟩ : ∃ G, G = g := ⟨_, rfl⟩
          rw [← hG] at hM hL2
          clear hG
          obtain ⟨TH, hG⟩ : ∃ G, G = th := ⟨_, rfl⟩
          rw [← hG] at hM hL2
          clear hG
          obtain ⟨VE, hG⟩ : ∃ G, G = ve := ⟨_, rfl⟩
          rw [← hG] at hM hL2
          clear hG
          cases hgg : G ((q : Int) + 1) with
          | none =>
            have t0 : TH (q + 1) = false := by
              rw [hL2.out.hth (q + 1) (by omega), hqc.out, hgg]; rfl
            refine (getI_none hM.out.st wfq hgg).mono ?_
            rintro e W8 ⟨rfl, hB8⟩
            have hM8 := Lib.hid (hM.out.below hB8)
            have d1 : W8.cell? ⟨b, q + 1, none⟩ = some (.bool false) := by rw [hM8.out.bT.cell, bools_get _ (by omega), t0]
            have dl := hM8.out.bT.lt
            clear hM hB8 t0 hgg wfq
            go_wp2_with fail
            go_region
            go_wp2
            exact ⟨⟨i + 1, last, _, _, _, _, _, by go_num, by go_num, by omega, Lib.hid (hM8.out.below (by repeat (first | (with_reducible exact Below.refl _ _) | (with_reducible refine Below.drew ?_) | (with_reducible refine Below.alloc ?_ (by simp [more_size]; try omega) _) | (with_reducible refine Below.setCell ?_ (by simp [more_size]; try omega) _) | (with_reducible refine below_more ?_ _ (by simp [more_size]; try omega))))), hL2⟩, by simp [intOf]; omega⟩
          | some r =>
            obtain ⟨hr1, hr2⟩ := hL2.out.hve (q + 1) r (by rw [hqc.out]; exact hgg)
            have t0 : TH (q + 1) = true := by
              rw [hL2.out.hth (q + 1) (by omega), hqc.out, hgg]; rfl
            refine (getI_some hM.out.st wfq hgg (by omega)).mono ?_
            rintro e W8 ⟨ga, cq, rfl, _, _, _, hB8⟩
            rw [hr1, hr2]
            have hM8 := Lib.hid (hM.out.below hB8)
            have d1 : W8.cell? ⟨b, q + 1, none⟩ = some (.bool true) := by rw [hM8.out.bT.cell, bools_get _ (by omega), t0]
            have d2 : W8.cell? ⟨c, q + 1, none⟩ = some (.int .i64 (VE (q + 1))) := by rw [hM8.out.bV.cell, ints_get _ (by omega)]
            have dl := hM8.out.bT.lt
            have dm := hM8.out.bV.lt
            clear hM hB8 t0 hgg wfq hr1 hr2
            generalize VE (q + 1) = ver at *
            go_wp2_with fail
            go_region
            go_wp2
            exact ⟨⟨i + 1, last, _, _, _, _, _, by go_num, by go_num, by omega, Lib.hid (hM8.out.below (by repeat (first | (with_reducible exact Below.refl _ _) | (with_reducible refine Below.drew ?_) | (with_reducible refine Below.alloc ?_ (by simp [more_size]; try omega) _) | (with_reducible refine Below.setCell ?_ (by simp [more_size]; try omega) _) | (with_reducible refine below_more ?_ _ (by simp [more_size]; try omega))))), hL2⟩, by simp [intOf]; omega⟩
      · go_wp2_with fail
        generalize hQ : (v : Int) / 4 % ((last : Int) + 1) = Q at *
        obtain ⟨q, rfl⟩ : ∃ q : Nat, Q = q := ⟨Q.toNat, by omega⟩
        clear hQ
        have hq : q ≤ last := by omega
        clear hm1 hm2
        have hq2 : (q : Int) + 1 < 130 := by omega
        have hq0 : (0 : Int) ≤ (q : Int) + 1 := by omega
        have hqn : ((q : Int) + 1).toNat = q + 1 := by omega
        have hqc : ((q + 1 : Nat) : Int) = (q : Int) + 1 := by omega
        replace hqc := Lib.hid hqc
        have wfq : (Lit.int .i64 ((q : Int) + 1)).wf = true := WalkArith.wf_i64 (by omega)
        have hkT : wr.cell? ⟨b, q + 1, none⟩ = some (.bool (th (q + 1))) := by rw [hN.out.bT.cell, bools_get _ (by omega)]
        have hfT := hN.out.bT.free (q + 1)
        have hkV : wr.cell? ⟨c, q + 1, none⟩ = some (.int .i64 (ve (q + 1))) := by rw [hN.out.bV.cell, ints_get _ (by omega)]
        have hfV := hN.out.bV.free (q + 1)
        have hTq := hL.out.hth (q + 1) (by omega)
        rw [hqc.out] at hTq
        have hbl := hN.out.bT.lt
        have hcl := hN.out.bV.lt
        refine (num9_any _ _).mono ?_; rintro e w' ⟨rfl, rfl⟩
        have hn60 := hN.out.st.le
        by_cases hn : (n : Int) < 60
        · have IN := Lib.hid (insertI hN.out.st i (by omega) (by have := hN.out.wq0; omega) hn)
          have hlc : ((last + 1 : Nat) : Int) = (last : Int) + 1 := by omega
          have hL2 := Lib.hid (hL.out.insert (last + 1) (numL i) rfl)
          rw [hlc] at hL2
          clear hlc
          go_wp2_with fail
          refine IN.out.mono ?_
          rintro e w3 ⟨rfl, hS3, hX3⟩
          have LN := Lib.hid (lenI hS3)
          have hl0 : (0 : Int) ≤ (last : Int) + 1 := by omega
          have hl1 : (last : Int) + 1 < 130 := by omega
          have hl2 : ((last : Int) + 1).toNat = last + 1 := by omega
          have hM3 := Lib.hid (hN.out.later.turn (last' := last + 1) hS3 hX3 (by have := hN.out.li; omega) (by have := hN.out.wq0; omega))
          have k3 : w3.cell? ⟨b, last + 1, none⟩ = some (.bool (th (last + 1))) := by rw [hM3.out.bT.cell, bools_get _ (by omega)]
          have f3 := hM3.out.bT.free (last + 1)
          have k4 : w3.cell? ⟨c, last + 1, none⟩ = some (.int .i64 (ve (last + 1))) := by rw [hM3.out.bV.cell, ints_get _ (by omega)]
          have f4 := hM3.out.bV.free (last + 1)
          have hbc := hM3.out.wb.2.2
          have hn9 : ((60 : Int) < ((n + 1 : Nat) : Int)) = False := eq_false (by omega)
          have hn8 : ((60 : Int) < (n : Int) + 1) = False := eq_false (by omega)
          clear IN hS3 hX3
          go_wp2_with fail
          refine LN.out.mono ?_; rintro e w' ⟨rfl, rfl⟩
          clear LN
          go_wp2_with fail
          refine calls_at (R := fun W => NM w W p b c (i + 1) (last + 1) (upd g ((last : Int) + 1) (some (1, numL i))) (n + 1) (wq + 1) (updN th (last + 1) true) (updN ve (last + 1) 1)) ?_ ?_
          · exact ((hM3.out.setT (last + 1) true).setV (last + 1) 1 (by omega))
          rintro W hM
          replace hM := Lib.hid hM
          clear hkT hfT hkV hfV hTq hbl hcl hN hL y0 hM3 k3 f3 k4 f4 hbc hn9 hn8 hn hn60
          generalize (upd g ((last : Int) + 1) (some (1, numL i))) = G at *
          generalize (updN th (last + 1) true) = TH at *
          generalize (updN ve (last + 1) 1) = VE at *
          cases hgg : G ((q : Int) + 1) with
          | none =>
            have t0 : TH (q + 1) = false := by
              rw [hL2.out.hth (q + 1) (by omega), hqc.out, hgg]; rfl
            refine (getI_none hM.out.st wfq hgg).mono ?_
            rintro e W8 ⟨rfl, hB8⟩
            have hM8 := Lib.hid (hM.out.below hB8)
            have d1 : W8.cell? ⟨b, q + 1, none⟩ = some (.bool false) := by rw [hM8.out.bT.cell, bools_get _ (by omega), t0]
            have dl := hM8.out.bT.lt
            clear hM hB8 t0 hgg wfq
            go_wp2_with fail
            go_region
            go_wp2
            exact ⟨⟨i + 1, (last + 1), _, _, _, _, _, by go_num, by go_num, by omega, Lib.hid (hM8.out.below (by repeat (first | (with_reducible exact Below.refl _ _) | (with_reducible refine Below.drew ?_) | (with_reducible refine Below.alloc ?_ (by simp [more_size]; try omega) _) | (with_reducible refine Below.setCell ?_ (by simp [more_size]; try omega) _) | (with_reducible refine below_more ?_ _ (by simp [more_size]; try omega))))), hL2⟩, by simp [intOf]; omega⟩
          | some r =>
            obtain ⟨hr1, hr2⟩ := hL2.out.hve (q + 1) r (by rw [hqc.out]; exact hgg)
            have t0 : TH (q + 1) = true := by
              rw [hL2.out.hth (q + 1) (by omega), hqc.out, hgg]; rfl
            refine (getI_some hM.out.st wfq hgg (by omega)).mono ?_
            rintro e W8 ⟨ga, cq, rfl, _, _, _, hB8⟩
            rw [hr1, hr2]
            have hM8 := Lib.hid (hM.out.below hB8)
            have d1 : W8.cell? ⟨b, q + 1, none⟩ = some (.bool true) := by rw [hM8.out.bT.cell, bools_get _ (by omega), t0]
            have d2 : W8.cell? ⟨c, q + 1, none⟩ = some (.int .i64 (VE (q + 1))) := by rw [hM8.out.bV.cell, ints_get _ (by omega)]
            have dl := hM8.out.bT.lt
            have dm := hM8.out.bV.lt
            clear hM hB8 t0 hgg wfq hr1 hr2
            generalize VE (q + 1) = ver at *
            go_wp2_with fail
            go_region
            go_wp2
            exact ⟨⟨i + 1, (last + 1), _, _, _, _, _, by go_num, by go_num, by omega, Lib.hid (hM8.out.below (by repeat (first | (with_reducible exact Below.refl _ _) | (with_reducible refine Below.drew ?_) | (with_reducible refine Below.alloc ?_ (by simp [more_size]; try omega) _) | (with_reducible refine Below.setCell ?_ (by simp [more_size]; try omega) _) | (with_reducible refine below_more ?_ _ (by simp [more_size]; try omega))))), hL2⟩, by simp [intOf]; omega⟩
        · have IN := Lib.hid (insertI_no hN.out.st i (by omega) (by omega))
          have hL2 := hL
          go_wp2_with fail
          refine IN.out.mono ?_
          rintro e w3 ⟨rfl, hS3, hX3⟩
          have LN := Lib.hid (lenI hS3)
          have hM3 := Lib.hid (hN.out.later.turn hS3 hX3 (by have := hN.out.li; omega) (by have := hN.out.wq0; omega))
          have hn9 : ((60 : Int) < (n : Int)) = False := eq_false (by omega)
          clear IN hS3 hX3
          go_wp2_with fail
          refine LN.out.mono ?_; rintro e w' ⟨rfl, rfl⟩
          clear LN
          go_wp2_with fail
          refine calls_at (R := fun W => NM w W p b c (i + 1) last g n wq th ve) ?_ ?_
          · exact hM3.out
          rintro W hM
          replace hM := Lib.hid hM
          clear hkT hfT hkV hfV hTq hbl hcl hN hL y0 hM3 hn9 hn hn60
          obtain ⟨G, hG⟩ : ∃ G, G = g := ⟨_, rfl⟩
          rw [← hG] at hM hL2
          clear hG
          obtain ⟨TH, hG⟩ : ∃ G, G = th := ⟨_, rfl⟩
          rw [← hG] at hM hL2
          clear hG
          obtain ⟨VE, hG⟩ : ∃ G, G = ve := ⟨_, rfl⟩
          rw [← hG] at hM hL2
          clear hG
          cases hgg : G ((q : Int) + 1) with
          | none =>
            have t0 : TH (q + 1) = false := by
              rw [hL2.out.hth (q + 1) (by omega), hqc.out, hgg]; rfl
            refine (getI_none hM.out.st wfq hgg).mono ?_
            rintro e W8 ⟨rfl, hB8⟩
            have hM8 := Lib.hid (hM.out.below hB8)
            have d1 : W8.cell? ⟨b, q + 1, none⟩ = some (.bool false) := by rw [hM8.out.bT.cell, bools_get _ (by omega), t0]
            have dl := hM8.out.bT.lt
            clear hM hB8 t0 hgg wfq
            go_wp2_with fail
            go_region
            go_wp2
            exact ⟨⟨i + 1, last, _, _, _, _, _, by go_num, by go_num, by omega, Lib.hid (hM8.out.below (by repeat (first | (with_reducible exact Below.refl _ _) | (with_reducible refine Below.drew ?_) | (with_reducible refine Below.alloc ?_ (by simp [more_size]; try omega) _) | (with_reducible refine Below.setCell ?_ (by simp [more_size]; try omega) _) | (with_reducible refine below_more ?_ _ (by simp [more_size]; try omega))))), hL2⟩, by simp [intOf]; omega⟩
          | some r =>
            obtain ⟨hr1, hr2⟩ := hL2.out.hve (q + 1) r (by rw [hqc.out]; exact hgg)
            have t0 : TH (q + 1) = true := by
              rw [hL2.out.hth (q + 1) (by omega), hqc.out, hgg]; rfl
            refine (getI_some hM.out.st wfq hgg (by omega)).mono ?_
            rintro e W8 ⟨ga, cq, rfl, _, _, _, hB8⟩
            rw [hr1, hr2]
            have hM8 := Lib.hid (hM.out.below hB8)
            have d1 : W8.cell? ⟨b, q + 1, none⟩ = some (.bool true) := by rw [hM8.out.bT.cell, bools_get _ (by omega), t0]
            have d2 : W8.cell? ⟨c, q + 1, none⟩ = some (.int .i64 (VE (q + 1))) := by rw [hM8.out.bV.cell, ints_get _ (by omega)]
            have dl := hM8.out.bT.lt
            have dm := hM8.out.bV.lt
            clear hM hB8 t0 hgg wfq hr1 hr2
            generalize VE (q + 1) = ver at *
            go_wp2_with fail
            go_region
            go_wp2
            exact ⟨⟨i + 1, last, _, _, _, _, _, by go_num, by go_num, by omega, Lib.hid (hM8.out.below (by repeat (first | (with_reducible exact Below.refl _ _) | (with_reducible refine Below.drew ?_) | (with_reducible refine Below.alloc ?_ (by simp [more_size]; try omega) _) | (with_reducible refine Below.setCell ?_ (by simp [more_size]; try omega) _) | (with_reducible refine below_more ?_ _ (by simp [more_size]; try omega))))), hL2⟩, by simp [intOf]; omega⟩
    · have hlt' : ((i : Int) < (l.length : Int)) = False := eq_false (by omega)
      have NX := Lib.hid (nextI hN.out.st)
      have fin := Lib.hid (more_of_below hN.out.st.bel)
      have hli : last ≤ 130 := by have := hN.out.li; omega
      clear hN hlt hi
      go_wp2_with fail
      refine NX.out.mono ?_; rintro e w' ⟨rfl, rfl⟩
      go_wp2
      go_ret
      exact ⟨rfl, fin.out⟩
theorem law_RowNumbers (v0 : Value) (w : World) (h0 : IsRow u8C 1 (fun n => n < 256) w v0) :
    Calls Try.prog 10 #[v0] w fun e w' => e = .returned (.bool true) ∧ Below w.heap.size w w' := by
  obtain ⟨A, cap, l, rfl, h1, h2, h3, h4, h5⟩ := h0
  exact law_of (walk_RowNumbers A cap l h4 w (by omega) h5)
end Go.Proofs.Ytilpgojkbgbinaa
