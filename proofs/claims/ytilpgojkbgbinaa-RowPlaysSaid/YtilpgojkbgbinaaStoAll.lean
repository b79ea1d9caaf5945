/- Package row: All. -/
import Derived.Test.YtilpgojkbgbinaaStoS
import Derived.Test.YtilpgojkbgbinaaStoJ
set_option maxRecDepth 100000
set_option linter.unusedVariables false
set_option linter.unusedSimpArgs false
namespace Go.Proofs.Ytilpgojkbgbinaa
open Go.RowKit
open Go.Maps (has size Keyed int_keyed keyOf_int_mk)
attribute [local go_sem] run_frombits run_tobits more_more more_drew more_drewN more_size more_cell more_frozen run_store_float lt_c1 le_c1 lt_s1 le_s1 lt_c2 le_c2 lt_s2 le_s2 lt_c3 le_c3 lt_s3 le_s3 lt_c4 le_c4 lt_s4 le_s4 lt_c5 le_c5 lt_s5 le_s5 lt_c6 le_c6 lt_s6 le_s6 lt_c7 le_c7 lt_s7 le_s7 lt_c8 le_c8 lt_s8 le_s8 lt_c9 le_c9 lt_s9 le_s9 lt_c10 le_c10 lt_s10 le_s10 lt_c11 le_c11 lt_s11 le_s11 lt_c12 le_c12 lt_s12 le_s12 le_c0
/-- a row that was told: its values in memory of the call's own, beside the row v -/
structure Told (w : World) (B : Nat) (v : Value) (g : Int → Option Row9) (s : Slt) : Prop where
  own : w.ownsRow B 103 4 (.slice s.A s.vals.length s.cap) s.vals.length (cellsOf s.vals)
  sep : ∀ k, (Value.slice s.A s.vals.length s.cap).ownBlock = some k → v.ownBlock ≠ some k
  is_ : g s.id = some (s.ver, s.vals)
theorem own_lt9 {w : World} {base : Nat} {e : TypeId} {s n : Nat} {v : Value} {xs : List Value} (h : w.ownsRow base e s v n xs) : ∀ g, v.ownBlock = some g → g < w.heap.size := by
  intro g hg
  rcases h.2 with ⟨rfl, _⟩ | ⟨g2, cap, cur, rfl, _, hgg, _⟩
  · simp [Value.ownBlock] at hg
  · simp [Value.ownBlock] at hg; subst hg; exact (Array.getElem?_eq_some_iff.1 hgg).1
theorem Told.turn {w w' : World} {B : Nat} {v v' : Value} {g : Int → Option Row9} {s : Slt} (h : Told w B v g s) (hk : ∀ k, k < w.heap.size → v.ownBlock ≠ some k → w'.heap[k]? = w.heap[k]?) (hv : v'.ownBlock = v.ownBlock ∨ ∃ H, v'.ownBlock = some H ∧ w.heap.size ≤ H) : Told w' B v' g s :=
  ⟨own_same h.own (fun k e => hk k (own_lt9 h.own k e) (h.sep k e)), fun k e c => by
    rcases hv with q | ⟨H, q, hH⟩
    · exact h.sep k e (q ▸ c)
    · have := own_lt9 h.own k e
      rw [q] at c; injection c with c; omega, h.is_⟩
/-- so many rows told -/
structure AR (g : Int → Option Row9) (w0 wr : World) (B : Nat) (v : Value) (R : List Slt) (ids : List Int) (k : Nat) : Prop where
  own : wr.ownsRow B 63 3 v R.length (rowC sltC R)
  bel : Below B w0 wr
  sz : B ≤ wr.heap.size
  ids : R.map Slt.id = ids.take k
  each : ∀ s ∈ R, Told wr B v g s
theorem keys_ids9 {w : World} {R : Value → Option (DataW Unit × List MemPlace)} {b n : Nat} {D : DataW Unit} (hown : w.ownsMap Try.prog 2 R b n D) : (intKeys D).Nodup ∧ ∀ x, x ∈ intKeys D ↔ has D (idL x) = true := by
  obtain ⟨es, hD, hp, _⟩ := hown.entries keyI
  obtain ⟨es', hD', hko⟩ := hown.keysOf
  obtain rfl : es = es' := by rw [hD] at hD'; simpa using hD'
  subst hD
  have hk : ∀ p ∈ es, ∃ x, p.1 = .int .i64 x := fun p hp => by obtain ⟨v, hv⟩ := hko p hp; obtain ⟨x, _, hx, _⟩ := Maps.keyOf_i64 Try.underlying2 hv; exact ⟨x, hx⟩
  constructor
  · show (es.map fun p => Go.intOf p.1).Nodup
    refine List.pairwise_map.2 (hp.imp_of_mem fun {p q} hp' hq' hne e => hne ?_)
    obtain ⟨a, ha⟩ := hk p hp'
    obtain ⟨b, hb⟩ := hk q hq'
    rw [ha, hb] at e ⊢
    exact congrArg _ e
  · intro x
    rw [Maps.has_eq, List.any_eq_true]
    show x ∈ es.map (fun p => Go.intOf p.1) ↔ _
    rw [List.mem_map]
    constructor
    · rintro ⟨p, hp', rfl⟩
      obtain ⟨a, ha⟩ := hk p hp'
      exact ⟨p, hp', by rw [ha]; simp [Lit.sameKey, Go.intOf]⟩
    · rintro ⟨p, hp', hs⟩
      obtain ⟨a, ha⟩ := hk p hp'
      rw [ha] at hs
      exact ⟨p, hp', by rw [ha]; simpa [Lit.sameKey, Go.intOf] using hs⟩
theorem sorted_lt9 {l : List Int} (h : l.Nodup) : (l.mergeSort (fun x y => decide (x ≤ y))).Pairwise (· < ·) := by
  have tr : ∀ a b c : Int, decide (a ≤ b) = true → decide (b ≤ c) = true → decide (a ≤ c) = true := fun a b c h1 h2 => by simp only [decide_eq_true_eq] at *; omega
  have to : ∀ a b : Int, (decide (a ≤ b) || decide (b ≤ a)) = true := fun a b => by simp only [Bool.or_eq_true, decide_eq_true_eq]; omega
  have hs := List.pairwise_mergeSort tr to l
  have hn : (l.mergeSort (fun x y => decide (x ≤ y))).Nodup := (List.mergeSort_perm l _).nodup_iff.2 h
  unfold List.Nodup at hn
  rw [List.pairwise_iff_getElem] at hs hn ⊢
  intro i j hi hj hij
  have h1 := hs i j hi hj hij
  have h2 := hn i j hi hj hij
  simp only [decide_eq_true_eq] at h1
  omega
theorem AR.snoc {g : Int → Option Row9} {w0 wr W' w3 : World} {B : Nat} {v v3 : Value} {R : List Slt} {ids : List Int} {k : Nat} (h : AR g w0 wr B v R ids k) (hB : Below wr.heap.size wr W') (grow : W'.grownBy w3 v.ownBlock) (hat : v3.ownBlock = v.ownBlock ∨ v3.ownBlock = some W'.heap.size) {s : Slt}
    (own3 : w3.ownsRow B 63 3 v3 (R.length + 1) (rowC sltC R ++ sltC s)) (hs : W'.ownsRow wr.heap.size 103 4 (.slice s.A s.vals.length s.cap) s.vals.length (cellsOf s.vals)) (hg : g s.id = some (s.ver, s.vals)) (hk : k < ids.length) (hid : s.id = ids[k]) :
    AR g w0 w3 B v3 (R ++ [s]) ids (k + 1) := by
  have hlt := own_lt9 h.own
  have hge := own_ge h.own
  refine ⟨?_, ?_, Nat.le_trans h.sz (Nat.le_trans hB.size grow.size), ?_, ?_⟩
  · rw [List.length_append, List.length_singleton, rowC_append, rowC_single]; exact own3
  · exact h.bel.trans ⟨grow.os.trans hB.os, grow.tape.trans hB.tape, grow.output.trans hB.output, Nat.le_trans hB.size grow.size, fun j hj => (grow.block j (Nat.lt_of_lt_of_le hj (Nat.le_trans h.sz hB.size)) (fun e => by have := hge j e.symm; omega)).trans (hB.block j (Nat.lt_of_lt_of_le hj h.sz))⟩
  · rw [List.map_append, h.ids, List.take_succ_eq_append_getElem hk]; simp [hid]
  · intro x hx
    rcases List.mem_append.1 hx with q | q
    · refine (h.each x q).turn (fun j hj hn => (grow.block j (Nat.lt_of_lt_of_le hj hB.size) (fun e => hn e.symm)).trans (hB.block j hj)) ?_
      rcases hat with e | e
      · exact .inl e
      · exact .inr ⟨_, e, hB.size⟩
    · simp at q
      subst q
      have hge2 := own_ge hs
      have hlt2 := own_lt9 hs
      refine ⟨own_lower (own_same hs (fun j e => grow.block j (hlt2 j e) (fun c => by have := hge2 j e; have := hlt j c.symm; omega))) h.sz, fun j e c => ?_, hg⟩
      have a1 := hge2 j e
      have a2 := hlt2 j e
      rcases hat with q | q
      · have := hlt j (q ▸ c); omega
      · rw [q] at c; injection c with c; omega
set_option maxHeartbeats 4000000 in
theorem all_any {w : World} {F : Nat → Prop} {p : Nat} {g : Int → Option Row9} {n : Nat} {mx nx wr0 : Int} (h : StoreAt w p F g n mx nx wr0) :
    Calls Try.prog 60 #[.pointer (some ⟨p, 0, none⟩)] w fun e w' => ∃ v R, e = .returned v ∧ w'.ownsRow w.heap.size 63 3 v R.length (rowC sltC R) ∧ Below w.heap.size w w' ∧ (∀ s ∈ R, Told w' w.heap.size v g s) ∧ (R.map Slt.id).Pairwise (· < ·) ∧ ∀ id, g id ≠ none ↔ id ∈ R.map Slt.id := by
  obtain ⟨i0, hi, hz0, hz1, hz2⟩ := info_parts info_row
  have hst := Lib.hid h
  obtain ⟨sl, cap, S, M, pf, a, m, D, hS, hL⟩ := h
  have hsz : size D ≤ 1000 := by have := hL.sz; have := hL.cnt; have := hL.le; have := hL.mx2; omega
  have c1 : w.cell? ⟨p, 1, none⟩ = some (.map (some M)) := hS.box.cell 1
  have SC := Lib.hid (sortedCall9 M (size D) D _ w hS.mp hsz)
  obtain ⟨kn, km⟩ := keys_ids9 hS.mp
  have kw := Lib.hid (intKeys_wf hS.mp Try.underlying2)
  have gk : Hid (∀ id, g id ≠ none ↔ id ∈ intKeys D) := Lib.hid (fun id => by
    rw [km id]
    cases hc : g id with
    | none => simp [hL.off id hc]
    | some r => simp [(hL.on id r hc).1])
  have ks := Lib.hid (fun (ss : List Int) (hp : ss.Perm (intKeys D)) => (show (ss.mergeSort (fun x y => decide (x ≤ y))).Pairwise (· < ·) ∧ ∀ x, x ∈ ss.mergeSort (fun x y => decide (x ≤ y)) ↔ x ∈ intKeys D from ⟨sorted_lt9 (hp.nodup_iff.2 kn), fun x => by rw [(List.mergeSort_perm ss _).mem_iff, hp.mem_iff]⟩))
  have kl : Hid (∀ ss : List Int, ss.Perm (intKeys D) → ss.length ≤ 1000) := Lib.hid (fun ss hp => by
    have e : (intKeys D).length = size D := by
      obtain ⟨es, rfl⟩ := hS.mp.isMap
      simp [intKeys, size]
    rw [hp.length_eq, e]; exact hsz)
  clear hS hL kn km hsz
  go_enter Try.func60, Try.ntmps60
  go_wp2_with fail
  refine (keysCall9 (some M) w).mono ?_; rintro e w' ⟨rfl, rfl⟩
  go_wp2_with fail
  refine SC.out.mono ?_
  rintro e w1 ⟨v1, ss, rfl, hp, own1, bel1⟩
  obtain ⟨kS, kM⟩ := ks.out ss hp
  have hl := kl.out ss hp
  have hll : (ss.mergeSort (fun x y => decide (x ≤ y))).length = ss.length := List.length_mergeSort ss
  have fin := Lib.hid (show (ss.mergeSort (fun x y => decide (x ≤ y))).Pairwise (· < ·) ∧ ∀ id, g id ≠ none ↔ id ∈ ss.mergeSort (fun x y => decide (x ≤ y)) from ⟨kS, fun id => (gk.out id).trans (kM id).symm⟩)
  have kw2 := Lib.hid (show ∀ x ∈ ss.mergeSort (fun x y => decide (x ≤ y)), (Lit.int .i64 x).wf = true ∧ g x ≠ none from fun x hx => ⟨kw.out x ((kM x).1 hx), (gk.out x).2 ((kM x).1 hx)⟩)
  clear kS kM kl ks kw gk hp SC
  generalize ss.mergeSort (fun x y => decide (x ≤ y)) = ids at *
  obtain ⟨N, hN⟩ : ∃ N, ss.length = N := ⟨_, rfl⟩
  rw [hN] at own1 hl hll
  clear hN ss
  have hbw : Below w.heap.size w w1 := (show Below w.heap.size w (w.alloc (.cells #[.map (some M)] 136)) from (by repeat (first | (with_reducible exact Below.refl _ _) | (with_reducible refine Below.drew ?_) | (with_reducible refine Below.alloc ?_ (by simp [more_size]; try omega) _) | (with_reducible refine Below.setCell ?_ (by simp [more_size]; try omega) _) | (with_reducible refine below_more ?_ _ (by simp [more_size]; try omega))))).trans (bel1.mono (by simp))
  have hst1 := Lib.hid (hst.out.below hbw)
  obtain ⟨A, cp, rfl, q1, q2, q3, q4⟩ := own_open own1
  replace q4 := Lib.hid q4
  replace hbw := Lib.hid hbw
  replace hll := Lib.hid hll
  have nil := Lib.hid (World.ownsRow_nil w1 w1.heap.size 63 3)
  clear own1 bel1 hst c1
  go_wp2
  go_loopw [3, 18] (fun t3 t18 wr => ∃ (k : Nat) (v : Value) (R : List Slt), t18 = .int .i64 k ∧ t3 = v ∧ k ≤ N ∧ Hid (R.length = k) ∧ Hid (AR g w1 wr w1.heap.size v R ids k)) (fun _ t18 _ => N - (intOf t18).toNat)
  case atStart => exact ⟨0, _, [], rfl, rfl, by omega, Lib.hid rfl, Lib.hid ⟨nil.out, Below.refl _ _, Nat.le_refl _, rfl, fun s hs => by cases hs⟩⟩
  case round =>
    obtain ⟨k, v, R, rfl, rfl, hk, hRk, hR⟩ := hrel
    clear nil
    by_cases hlt : k < N
    · have hlt' : (k : Int) < (N : Int) := by omega
      have hki : k < ids.length := by have := hll.out; omega
      obtain ⟨ga, rfl, _, hga, hcc⟩ := q4.out (by omega)
      have y0 : wr.cell? ⟨ga, k, none⟩ = some (.int .i64 ids[k]) := (hR.out.bel.cell (p := ⟨ga, k, none⟩) hga).trans (hcc k _ (by simp [hki]))
      obtain ⟨wfi, hgi⟩ := kw2.out ids[k] (List.getElem_mem hki)
      obtain ⟨r, hr⟩ : ∃ r, g ids[k] = some r := by
        cases hc : g ids[k] with
        | none => exact absurd hc hgi
        | some r => exact ⟨r, rfl⟩
      have GT := Lib.hid (get_some (hst1.out.below hR.out.bel) wfi hr)
      have SN := Lib.hid (fun W' w3 v3 s => hR.out.snoc (W' := W') (w3 := w3) (v3 := v3) (s := s))
      have ownR := Lib.hid hR.out.own
      have hsz := hR.out.sz
      rw [hRk.out] at ownR SN
      clear hcc hgi
      obtain ⟨idk, hidk⟩ : ∃ x, x = ids[k] := ⟨_, rfl⟩
      rw [← hidk] at y0 wfi hr GT
      replace hidk := Lib.hid hidk
      generalize hrv : r.1 = rv at *
      generalize hrl : r.2 = rl at *
      have hgr : Hid (g idk = some (rv, rl)) := Lib.hid (by rw [hr, ← hrv, ← hrl])
      clear hr hrv hrl
      go_wp2_with fail
      refine GT.out.mono ?_
      rintro e w2 ⟨v2, rfl, own2, bel2⟩
      obtain ⟨A2, c2, rfl, _, _, _, _⟩ := own_vals own2
      replace own2 := Lib.hid own2
      replace bel2 := Lib.hid bel2
      have ownR2 := Lib.hid (own_below ownR.out bel2.out)
      have hsz2 := bel2.out.size
      clear GT y0
      go_wp2_with (first
        | (at_builtin; refine wpList_append_own_at _ rfl _ _ 105 rfl w1.heap.size 63 i0 _ 3 40 Try.underlying105 hi hz0 hz1 hz2 rfl (by decide) u3 k (rowC sltC R) rfl (own_below ownR2.out (by repeat (first | (with_reducible exact Below.refl _ _) | (with_reducible refine Below.drew ?_) | (with_reducible refine Below.alloc ?_ (by simp [more_size]; try omega) _) | (with_reducible refine Below.setCell ?_ (by simp [more_size]; try omega) _) | (with_reducible refine below_more ?_ _ (by simp [more_size]; try omega))))) _ 1 1 (sltC ⟨idk, rv, A2, c2, rl⟩) rfl rfl (cells_at _ (sltC ⟨idk, rv, A2, c2, rl⟩) _ (by simp)) (sltC_one _) (by unfold maxLen; omega) (by omega) (by simp; omega) ?_; intro v3 w3 own3 grow3 _ hat3)
        | fail)
      have hAR := Lib.hid (SN.out ((w2.alloc (.cells #[.int .i64 idk, .int .i64 rv, .slice A2 rl.length c2] 63)).alloc (.cells #[.int .i64 idk, .int .i64 rv, .slice A2 rl.length c2] 63)) w3 v3 ⟨idk, rv, A2, c2, rl⟩ (bel2.out.trans (show Below wr.heap.size w2 _ from ((Below.refl _ _).alloc hsz2 _).alloc (by simp; omega) _)) grow3 hat3 own3 (own_below own2.out (by repeat (first | (with_reducible exact Below.refl _ _) | (with_reducible refine Below.drew ?_) | (with_reducible refine Below.alloc ?_ (by simp [more_size]; try omega) _) | (with_reducible refine Below.setCell ?_ (by simp [more_size]; try omega) _) | (with_reducible refine below_more ?_ _ (by simp [more_size]; try omega))))) hgr.out hki hidk.out)
      have hR9 : Hid ((R ++ [(⟨idk, rv, A2, c2, rl⟩ : Slt)]).length = k + 1) := Lib.hid (by rw [List.length_append, hRk.out]; rfl)
      clear SN ownR own2 bel2 ownR2 own3 grow3 hat3 hR
      exact ⟨⟨k + 1, _, _, by go_num, rfl, by omega, hR9, hAR⟩, by simp [intOf]; omega⟩
    · have hlt' : ((k : Int) < (N : Int)) = False := eq_false (by omega)
      have hkN : k = ids.length := by have := hll.out; omega
      have fin2 := Lib.hid (show wr.ownsRow w.heap.size 63 3 u3 R.length (rowC sltC R) ∧ Below w.heap.size w wr ∧ (∀ s ∈ R, Told wr w.heap.size u3 g s) ∧ (R.map Slt.id).Pairwise (· < ·) ∧ ∀ id, g id ≠ none ↔ id ∈ R.map Slt.id from by
        have e := hR.out.ids
        rw [hkN, List.take_length] at e
        refine ⟨own_lower hR.out.own hbw.out.size, hbw.out.trans (hR.out.bel.mono hbw.out.size), fun s hs => ?_, by rw [e]; exact fin.out.1, by rw [e]; exact fin.out.2⟩
        have := hR.out.each s hs
        exact ⟨own_lower this.own hbw.out.size, this.sep, this.is_⟩)
      clear hkN hR hRk
      go_wp2
      go_ret
      exact ⟨_, _, rfl, fin2.out⟩
end Go.Proofs.Ytilpgojkbgbinaa
