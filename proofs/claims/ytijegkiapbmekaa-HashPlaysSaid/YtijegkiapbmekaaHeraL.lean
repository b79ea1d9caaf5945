/- Package hashidx: Erase of the last row of a chain. -/
import Derived.Test.YtijegkiapbmekaaHera
import Derived.Test.YtijegkiapbmekaaHeraR
import Derived.Deep.CutRange
set_option maxRecDepth 100000
set_option linter.unusedVariables false
set_option linter.unusedSimpArgs false
namespace Go.Proofs.Ytijegkiapbmekaa
open Go.RowKit
open Go.Maps (has size Keyed int_keyed keyOf_int_mk)
attribute [local go_sem] run_frombits run_tobits more_more more_drew more_drewN more_size more_cell more_frozen run_store_float lt_c1 le_c1 lt_s1 le_s1 lt_c2 le_c2 lt_s2 le_s2 lt_c3 le_c3 lt_s3 le_s3 lt_c4 le_c4 lt_s4 le_s4 lt_c5 le_c5 lt_s5 le_s5 lt_c6 le_c6 lt_s6 le_s6 lt_c7 le_c7 lt_s7 le_s7 lt_c8 le_c8 lt_s8 le_s8 lt_c9 le_c9 lt_s9 le_s9 lt_c10 le_c10 lt_s10 le_s10 lt_c11 le_c11 lt_s11 le_s11 lt_c12 le_c12 lt_s12 le_s12 le_c0
section
variable {w w' : World} {F Y : Nat → Prop} {p M : Nat} {D : DataW Value} {u : Bool} {n : Int} {C : List Chn} {key : List Val}
set_option maxHeartbeats 8000000 in
theorem hera_last (h : HM w F p M D u n C) (A : Option Addr) (ca : Nat) (hok : allOk key) (lk : key.length ≤ 1000) (ha : ValsIn w A key) {c : Chn} (hc : c ∈ C) (hk : c.key = key) (hl : c.ids.length ≤ 1000) (id : Int) (hid : id ∈ c.ids) (hn : 0 ≤ n ∧ n ≤ 1000) (hR : without c.ids id = []) (hCl : C.length ≤ 1000) (hAF : ∀ x, A = some x → 0 < key.length → ¬ F x.block) :
    Calls Try.prog 18 #[.pointer (some ⟨p, 0, none⟩), .slice A key.length ca, .int .i64 id] w fun e w' => e = .returned (.int .i64 0) ∧ ∃ F' D', HM w' F' p M D' u (n - 1) (C.filter (fun a => !(a.b == c.b))) ∧ Chg F w w' ∧ Grew w F F' := by
  subst hk
  replace hR := Lib.hid hR
  have FD := Lib.hid (fun W (hB : Below w.heap.size w W) => find_any (h.below hB) A ca hok lk (ha.below hB))
  have fe := fnd_yes h hc rfl
  rw [fe] at FD
  have hC := h.each c hc
  have hbl := hC.box.lt
  have cc := Lib.hid (fun W (hB : Below w.heap.size w W) => ((hB.cell (p := ⟨c.b, 1, none⟩) hC.box.lt).trans (hC.box.cell 1) : W.cell? ⟨c.b, 1, none⟩ = some (idsS c)))
  have CT := Lib.hid (fun W (hB : Below w.heap.size w W) => contains_any c.iA c.ic c.ids id W (by omega) (hC.row.1.below hB))
  rw [decide_eq_true hid] at CT
  have hFlt := Lib.hid h.Flt
  have hpF := h.pF
  have hw1 : wrap64 (n - 1) = n - 1 := by unfold wrap64; omega
  have hw2 : IntKind.i64.wrap (n - 1) = n - 1 := IntWalk.i64_in _ (by omega)
  have hh := Lib.hid h
  have hidh := Lib.hid hid
  have hkv : ∀ W, Chg F w W → ValsIn W A c.key := fun W hW j hj => by
    obtain ⟨b, off, e0, hb, _⟩ := ha j hj
    refine (ha.same hW.size (fun x e => ?_)) j hj
    rw [e0] at e
    injection e with e
    exact hW.block x.block (by rw [← e]; exact hb) (hAF x (by rw [e0, e]) (by omega))
  have HG := Lib.hid (fun W (hW : Chg F w W) => hash_any A ca c.key hok W (by omega) (hkv W hW))
  clear h hC ha hok hid hkv
  go_enter Try.func18, Try.ntmps18
  go_wp2_with fail
  refine calls_at (R := fun W => Below w.heap.size w W ∧ Blk W w.heap.size #[.int .i64 id] 2) ⟨(by repeat (first | (with_reducible exact Below.refl _ _) | (with_reducible refine Below.drew ?_) | (with_reducible refine Below.alloc ?_ (by simp [more_size]; try omega) _) | (with_reducible refine Below.setCell ?_ (by simp [more_size]; try omega) _) | (with_reducible refine below_more ?_ _ (by simp [more_size]; try omega)))), Blk.new _ _ _ rfl⟩ ?_
  rintro W ⟨hB, hib⟩
  refine (FD.out W hB).mono' ?_; intro x
  have hB2 := hB.trans ((more_below W x).mono hB.size)
  have c1 := cc.out _ hB2
  have hib2 := hib.more x
  have hcb : c.b < (more W x).heap.size := Nat.lt_of_lt_of_le hbl hB2.size
  have CT2 := Lib.hid (fun V (hV : Below (more W x).heap.size (more W x) V) => CT.out V (hB2.trans (hV.mono hB2.size)))
  replace hB2 := Lib.hid hB2
  clear hB hib
  generalize more W x = W2 at *
  clear FD CT cc
  go_upto_region 2 with fail
  obtain ⟨bq, hbq⟩ : ∃ bq, bq = W2.heap.size := ⟨_, rfl⟩
  refine wp_named9 (R := fun V => Blk V bq #[chnP c] 62 ∧ V.cell? ⟨c.b, 1, none⟩ = some (idsS c) ∧ Blk V w.heap.size #[.int .i64 id] 2 ∧ Below W2.heap.size W2 V) ⟨Blk.new _ _ _ hbq, ?_, hib2.alloc _, (by repeat (first | (with_reducible exact Below.refl _ _) | (with_reducible refine Below.drew ?_) | (with_reducible refine Below.alloc ?_ (by simp [more_size]; try omega) _) | (with_reducible refine Below.setCell ?_ (by simp [more_size]; try omega) _) | (with_reducible refine below_more ?_ _ (by simp [more_size]; try omega))))⟩ ?_
  · exact ((show Below W2.heap.size W2 (W2.alloc (.cells #[chnP c] 62)) from (by repeat (first | (with_reducible exact Below.refl _ _) | (with_reducible refine Below.drew ?_) | (with_reducible refine Below.alloc ?_ (by simp [more_size]; try omega) _) | (with_reducible refine Below.setCell ?_ (by simp [more_size]; try omega) _) | (with_reducible refine below_more ?_ _ (by simp [more_size]; try omega))))).cell (p := ⟨c.b, 1, none⟩) hcb).trans c1
  rintro V ⟨hbV, c2, hib3, hV⟩
  have c3 : V.cell? ⟨bq, 0, none⟩ = some (chnP c) := hbV.cell 0
  have c4 : V.cell? ⟨w.heap.size, 0, none⟩ = some (.int .i64 id) := hib3.cell 0
  have l3 := hbV.lt
  have l4 := hib3.lt
  have l2 : c.b < V.heap.size := Nat.lt_of_lt_of_le hcb hV.size
  have hbqw : w.heap.size ≤ bq := by rw [hbq]; exact hB2.out.size
  rw [← hbq]
  have CT3 := Lib.hid (fun y => gives_of_same (CT2.out (more V y) (hV.trans ((more_below V y).mono hV.size))))
  have hBV := Lib.hid (hB2.out.trans (hV.mono hB2.out.size))
  clear hV CT2 c1 hbq hib2 hcb hB2
  replace hbV := Lib.hid hbV
  replace hib3 := Lib.hid hib3
  refine wp_region_more (by kernel_rfl) (by kernel_rfl) ?_
  repeat (go_big_quiet_step (((with_reducible exact (CT3.out _).at_))))
  refine wpQuiet_nil ?_
  rintro _ ⟨z, rfl⟩
  have hV5 := more_below V z
  clear CT3
  generalize more V z = V5 at *
  have c5 : V5.cell? ⟨bq, 0, none⟩ = some (chnP c) := (hV5.cell (p := ⟨bq, 0, none⟩) l3).trans c3
  have c6 : V5.cell? ⟨c.b, 1, none⟩ = some (idsS c) := (hV5.cell (p := ⟨c.b, 1, none⟩) l2).trans c2
  have l5 : bq < V5.heap.size := Nat.lt_of_lt_of_le l3 hV5.size
  have l6 : c.b < V5.heap.size := Nat.lt_of_lt_of_le l2 hV5.size
  have hB5 := Lib.hid (hBV.out.trans (hV5.mono hBV.out.size))
  have nF : ∀ k, w.heap.size ≤ k → ¬ F k := fun k hk e => by have := hFlt.out k e; omega
  have DEL := Lib.hid (era_del (hh.out.below hB5.out) hc hl hidh.out ((hV5.block _ l4).trans hib3.out) ((hV5.block _ l3).trans hbV.out) (nF _ (Nat.le_refl _)) (nF _ hbqw))
  clear c2 c3 c4 l2 l3 l4 hBV hbV hib3 hV5 nF hFlt
  go_upto_region 4 with fail
  go_cut [] from 9 (fun W => Hid (∃ iA ic F', HM W F' p M D u n (C.map (updC c.b iA ic (without c.ids id))) ∧ Chg F V5 W ∧ Grew V5 F F' ∧ ¬ F' bq ∧ Blk W bq #[chnP c] 62))
  case first =>
    go_region_law (go_simp; go_at_call 31; refine (DEL.out).mono ?_; rintro e w3 ⟨iA, ic, rfl, hF, a1, a2, a3, a4, a5⟩)
    all_goals
      have hR4 := Lib.hid (show ∃ jA jc F', HM (w3.setCell ⟨c.b, 1, none⟩ (.slice iA (without c.ids id).length ic)) F' p M D u n (C.map (updC c.b jA jc (without c.ids id))) ∧ Chg F V5 (w3.setCell ⟨c.b, 1, none⟩ (.slice iA (without c.ids id).length ic)) ∧ Grew V5 F F' ∧ ¬ F' bq ∧ Blk (w3.setCell ⟨c.b, 1, none⟩ (.slice iA (without c.ids id).length ic)) bq #[chnP c] 62 from by
        obtain ⟨F', q⟩ := hF.out
        exact ⟨iA, ic, F', q⟩)
      clear DEL a1 a2 a3 a4 a5 hF
      go_wp2
      go_meet
      exact hR4
  case rest =>
    clear DEL c5 c6 l5 l6
    obtain ⟨iA, ic, F', h6, hCh, hGr, nq, hbq6⟩ := hcut.out
    clear hcut
    have h7 := h6.count (n - 1)
    have e1 : wc.cell? ⟨p, 2, none⟩ = some (.int .i64 n) := h6.box.cell 2
    have e2 : wc.frozen? ⟨p, 2, none⟩ = false := h6.box.free 2
    have hc7 := h7.each _ (List.mem_map.2 ⟨c, hc, rfl⟩)
    rw [updC_same rfl] at hc7
    have e3 : (wc.setCell ⟨p, 2, none⟩ (.int .i64 (n - 1))).cell? ⟨c.b, 1, none⟩ = some (.slice iA (without c.ids id).length ic) := hc7.box.cell 1
    have hbq7 : Blk (wc.setCell ⟨p, 2, none⟩ (.int .i64 (n - 1))) bq #[chnP c] 62 := (Below.heap_setCell wc ⟨p, 2, none⟩ _ bq (tag_ne hbq6 h6.box (by decide))).trans hbq6
    have e4 : (wc.setCell ⟨p, 2, none⟩ (.int .i64 (n - 1))).cell? ⟨bq, 0, none⟩ = some (chnP c) := hbq7.cell 0
    have hC7 := Lib.hid (((Chg.of_below hB5.out).then hCh).then (Chg.set ⟨p, 2, none⟩ (.int .i64 (n - 1)) hpF))
    have hG7 := Lib.hid (show Grew w F F' from ⟨hGr.1, fun k hk => (hGr.2 k hk).imp (fun q => q) (fun q => Nat.le_trans hB5.out.size q)⟩)
    have HG7 := Lib.hid (HG.out _ hC7.out)
    replace h7 := Lib.hid h7
    replace hbq7 := Lib.hid hbq7
    replace nq := Lib.hid nq
    clear h6 hCh hGr hbq6 hc7 hB5 hh hidh HG
    rw [hR.out] at e3
    go_wp2_with fail
    refine HG7.out.mono' ?_
    intro y
    have hM := Lib.hid (h7.out.below (more_below _ y))
    have hbqM := Lib.hid (hbq7.out.more y)
    have hCM := Lib.hid (hC7.out.then (Chg.more y))
    clear HG7 h7 hbq7 hC7 e1 e2 e3 e4
    generalize more (wc.setCell ⟨p, 2, none⟩ (.int .i64 (n - 1))) y = W8 at *
    obtain ⟨C7, hC7e⟩ : ∃ C7, C7 = C.map (updC c.b iA ic (without c.ids id)) := ⟨_, rfl⟩
    have hC7l : C7.length ≤ 1000 := by rw [hC7e]; simpa using hCl
    have hc7 : updC c.b iA ic (without c.ids id) c ∈ C7 := by rw [hC7e]; exact List.mem_map.2 ⟨c, hc, rfl⟩
    rw [updC_same rfl] at hc7
    rw [← hC7e] at hM
    obtain ⟨v0, LK, DEL⟩ := era_row hM.out hC7l hc7 hbqM.out nq.out
    have c8 : W8.cell? ⟨p, 1, none⟩ = some (.map (some M)) := hM.out.box.cell 1
    have l8 := hM.out.box.lt
    have LK1 := LK W8.drew (by repeat (first | (with_reducible exact Below.refl _ _) | (with_reducible refine Below.drew ?_) | (with_reducible refine Below.alloc ?_ (by simp [more_size]; try omega) _) | (with_reducible refine Below.setCell ?_ (by simp [more_size]; try omega) _) | (with_reducible refine below_more ?_ _ (by simp [more_size]; try omega))))
    have hfe : Hid (C7.filter (fun a => !(a.b == c.b)) = C.filter (fun a => !(a.b == c.b))) := Lib.hid (by
      rw [hC7e, List.filter_map]
      have : ((fun a => !(a.b == c.b)) ∘ updC c.b iA ic (without c.ids id)) = (fun a => !(a.b == c.b)) := rfl
      rw [this]
      refine (List.map_congr_left (fun a ha => ?_)).trans (List.map_id _)
      have h1 := (List.mem_filter.1 ha).2
      simp at h1
      exact updC_other h1)
    replace DEL := Lib.hid DEL
    replace hC7e := Lib.hid hC7e
    clear LK hc7
    go_upto_region 9 with fail
    go_cut [] from 9 (fun W => ∃ A9 n9 c9, W.cell? ⟨p, 1, none⟩ = some (.map (some M)) ∧ p < W.heap.size ∧ (Instr.lookup 59 (.map (some M)) (.int .u64 (hashV c.key : Nat)) false).run Try.prog W = .ok (.slice A9 n9 c9) W ∧ Hid (∃ D9, W.ownsMap Try.prog 26 heldE M (size D9) D9 ∧ Chg F' W8 W ∧ (n9 ≠ 0 → HM W F' p M D9 u (n - 1) (C7.filter (fun a => !(a.b == c.b)))) ∧ (n9 = 0 → ∀ W11, W11.ownsMap Try.prog 26 heldE M (size D9) (D9.del (.int .u64 (hashV c.key : Nat))) → W.mapTurned W11 M → HM W11 F' p M (D9.del (.int .u64 (hashV c.key : Nat))) u (n - 1) (C7.filter (fun a => !(a.b == c.b))) ∧ Chg F' W8 W11)))
    case first =>
      have c8d : W8.drew.cell? ⟨p, 1, none⟩ = some (.map (some M)) := c8
      go_region_held3 (fun W' => W'.cell? ⟨p, 1, none⟩ = some (.map (some M))) (first | assumption | exact c8d) ((first
        | (go_at_call 33; with_reducible refine Calls.mono (DEL.out) ?_; rintro e w9 ⟨A9, n9, c9, W10, rfl, p1, p2, p3, p4, p5, p6, p7⟩)))
      all_goals
        clear DEL c8 l8 LK1 p1 p2 p3
        go_wp2
        go_meet
        exact ⟨A9, n9, c9, p4, p5, p6, p7⟩
    case rest =>
      clear DEL c8 l8 LK1
      obtain ⟨A9, n9, c9, p4, p5, p6, p7⟩ := hcut
      obtain ⟨D9, own9, hC9, hX, hY⟩ := p7.out
      rw [hfe.out] at hX hY
      clear p7
      by_cases h0 : n9 = 0
      · have hY2 := Lib.hid (hY h0)
        have own9h := Lib.hid own9
        subst h0
        have hkey : Hid (keyOf Try.prog 26 (.int .u64 (hashV c.key : Nat)) = some (.int .u64 (hashV c.key : Nat))) := Lib.hid (keyOf_int_mk Try.underlying26 (WalkArith.wf_u64 (by have := hashV_lt c.key; omega)))
        clear hX hY hC9 own9 hfe hM hbqM
        go_wp2_with (first
          | (at_delete; refine wpList_delete_own _ rfl _ _ 59 26 rfl 68 keyU Try.underlying59 heldE M (size D9) D9 rfl own9h.out _ (.int .u64 (hashV c.key : Nat)) rfl hkey.out ?_; intro w11 own11 turn11; obtain ⟨h12, hC12⟩ := hY2.out w11 own11 turn11; replace h12 := Lib.hid h12; replace hC12 := Lib.hid hC12; clear own11 turn11)
          | fail)
        go_ret
        exact ⟨rfl, F', _, h12.out, ⟨hC12.out.os.trans hCM.out.os, hC12.out.tape.trans hCM.out.tape, hC12.out.output.trans hCM.out.output, Nat.le_trans hCM.out.size hC12.out.size, fun k h1 h2 => (hC12.out.block k (Nat.lt_of_lt_of_le h1 hCM.out.size) (fun e => (hG7.out.2 k e).elim h2 (fun q => by omega))).trans (hCM.out.block k h1 h2)⟩, hG7.out⟩
      · have h1 : ((n9 : Int) == 0) = false := by simp; omega
        have h12 := Lib.hid (hX h0)
        have hC12 := Lib.hid hC9
        clear hX hY hC9 own9 hfe hM hbqM
        go_wp2
        go_ret
        exact ⟨rfl, F', _, h12.out, ⟨hC12.out.os.trans hCM.out.os, hC12.out.tape.trans hCM.out.tape, hC12.out.output.trans hCM.out.output, Nat.le_trans hCM.out.size hC12.out.size, fun k h1 h2 => (hC12.out.block k (Nat.lt_of_lt_of_le h1 hCM.out.size) (fun e => (hG7.out.2 k e).elim h2 (fun q => by omega))).trans (hCM.out.block k h1 h2)⟩, hG7.out⟩
end
end Go.Proofs.Ytijegkiapbmekaa
