/- Package hashidx: All. -/
import Derived.Test.YtijegkiapbmekaaHsort
import Derived.Test.YtijegkiapbmekaaApp
import Derived.Test.YtijegkiapbmekaaEnt
import Derived.Deep.LoopGhost
set_option maxRecDepth 100000
set_option linter.unusedVariables false
set_option linter.unusedSimpArgs false
namespace Go.Proofs.Ytijegkiapbmekaa
open Go.RowKit Go.Sort Go.Shelf
open Go.Maps (has size Keyed int_keyed keyOf_int_mk)
attribute [local go_sem] run_frombits run_tobits more_more more_drew more_drewN more_size more_cell more_frozen run_store_float lt_c1 le_c1 lt_s1 le_s1 lt_c2 le_c2 lt_s2 le_s2 lt_c3 le_c3 lt_s3 le_s3 lt_c4 le_c4 lt_s4 le_s4 lt_c5 le_c5 lt_s5 le_s5 lt_c6 le_c6 lt_s6 le_s6 lt_c7 le_c7 lt_s7 le_s7 lt_c8 le_c8 lt_s8 le_s8 lt_c9 le_c9 lt_s9 le_s9 lt_c10 le_c10 lt_s10 le_s10 lt_c11 le_c11 lt_s11 le_s11 lt_c12 le_c12 lt_s12 le_s12 le_c0
abbrev hLit (c : Chn) : Lit := .int .u64 ((hashV c.key : Nat) : Int)
theorem perm_step {α : Type} (C : List α) (p q r : α → Bool) (h1 : ∀ a ∈ C, r a = (p a || q a)) (h2 : ∀ a ∈ C, p a = true → q a = false) : (C.filter p ++ C.filter q).Perm (C.filter r) := by
  induction C with
  | nil => exact List.Perm.refl _
  | cons a C ih =>
    have ih := ih (fun b hb => h1 b (by simp [hb])) (fun b hb => h2 b (by simp [hb]))
    have e1 := h1 a (by simp)
    have e2 := h2 a (by simp)
    rw [List.filter_cons, List.filter_cons, List.filter_cons, e1]
    cases hp : p a with
    | true =>
      rw [e2 hp]
      simpa using ih
    | false =>
      cases hq : q a with
      | true => simpa using List.perm_middle.trans (ih.cons a)
      | false => simpa using ih
section
variable {w w' : World} {F Y : Nat → Prop} {p M : Nat} {D : DataW Value} {u : Bool} {n : Int} {C : List Chn} {key : List Val}
set_option maxHeartbeats 4000000 in
theorem hall_any (h : HM w F p M D u n C) (hCl : C.length ≤ 900) (hil : ∀ c ∈ C, c.ids.length ≤ 900) :
    Calls Try.prog 20 #[.pointer (some ⟨p, 0, none⟩)] w fun e w' => ∃ (A : Option Addr) (cp : Nat) (Q : List Ent) (S : List Chn), e = .returned (.slice A Q.length cp) ∧ Hid (EntsOk w' w.heap.size A cp Q ∧ Q.map entP = entsOf S ∧ S.Perm C ∧ S.Pairwise (fun a d => rowsV a.key d.key ≤ 0) ∧ Below w.heap.size w w') := by
  obtain ⟨i0, hi0, hz0, hz1, hz2⟩ := info_parts info_chp
  have c1 : w.cell? ⟨p, 1, none⟩ = some (.map (some M)) := h.box.cell 1
  have own := Lib.hid h.mp
  have hM := h.mp.lt
  have hall : Hid (∀ c ∈ C, has D (hLit c) = true) := Lib.hid (fun c hc => by
    cases hh : has D (hLit c) with
    | true => rfl
    | false =>
      obtain ⟨v, q1, q2, _⟩ := h.rows (hashV c.key) (hashV_lt c.key)
      have e := Go.Maps.atKey_of_not_has hh (.held (.slice none 0 0))
      unfold atH at q1
      rw [e] at q1
      injection q1 with q1
      subst q1
      have : (ofH C (hashV c.key)).length = 0 := by
        rcases q2.2 with ⟨_, r⟩ | ⟨g, _, _, r, _⟩
        · exact r
        · cases r
      have hm : c ∈ ofH C (hashV c.key) := List.mem_filter.2 ⟨hc, by simp⟩
      rw [List.length_eq_zero_iff] at this
      rw [this] at hm; cases hm)
  have hh := Lib.hid h
  have hilh := Lib.hid hil
  clear h hil
  go_enter Try.func20, Try.ntmps20
  go_wp2_with (first
    | (at_range; refine wpList_range_own _ rfl _ 59 rfl 26 68 keyU Try.underlying59 _ M (size D) _ rfl own.out ?_; intro w0 hrg0 hg0 hs0)
    | fail)
  go_frame
  have hB0 : Below w.heap.size w w0 := ⟨hg0.os, hg0.tape, hg0.output, hg0.size, fun k hk => hg0.block k hk (by simp)⟩
  go_loopw [3] (fun s3 wr => ∃ (left : Lit → Bool) (cnt : Nat) (L : List Chn) (vA : Option Addr) (vc : Nat), s3 = .slice vA L.length vc ∧ wr.ranges Try.prog 26 heldE M w.heap.size (size D) D left cnt ∧ Hid (wr.ownsRow (w.heap.size + 1) 62 1 (.slice vA L.length vc) L.length (L.map chnP) ∧ Below w.heap.size w wr ∧ w.heap.size < wr.heap.size ∧ L.Perm (C.filter (fun c => !left (hLit c))))) (fun _ wr => wr.rangeLeft M w.heap.size)
  case atStart =>
    refine ⟨_, _, [], none, 0, rfl, hrg0, Lib.hid ⟨World.ownsRow_nil _ _ _ _, hB0, by omega, ?_⟩⟩
    rw [List.filter_eq_nil_iff.2 (fun c hc => by rw [hall.out c hc]; simp)]
  case round =>
    obtain ⟨left, cnt, L, vA, vc, rfl, hrg, hX⟩ := hrel
    go_wp2_with (first
      | (at_next; refine wpList_next_ranges _ rfl _ rfl 26 keyU heldE (fun x : Int => .int .u64 x) (fun v : Value => v) invK9 (fun v y _ => ⟨v, rfl⟩) M w.heap.size (size D) D left cnt rfl hrg ?_ ?_)
      | fail)
    · intro hc0 hl0
      obtain ⟨o1, b1, z1, pm⟩ := hX.out
      rw [List.filter_eq_self.2 (fun c _ => by rw [hl0]; rfl)] at pm
      clear hX hrg own hl0
      by_cases hLn : L = []
      · subst hLn
        have hCn : C = [] := pm.nil_eq.symm
        have hB9 := Lib.hid b1
        clear o1 b1 pm z1
        go_wp2_with fail
        refine (sort_nil9 _ _ _ _).mono ?_; rintro e w' ⟨rfl, rfl⟩
        go_wp2_with fail
        refine wp_loop_rounds 1 ?_
        rw [rounds_succ]
        go_wp2
        go_ret
        exact ⟨none, 0, [], [], rfl, Lib.hid ⟨EntsOk.nil _ _, rfl, by rw [hCn], List.Pairwise.nil, hB9.out⟩⟩
      · obtain ⟨b, rfl⟩ : ∃ b, vA = some ⟨b, 0, none⟩ := by
          rcases own_form1 o1 with ⟨_, q, _⟩ | q
          · exact absurd (List.eq_nil_of_length_eq_zero q) hLn
          · exact q
        have hbge : w.heap.size + 1 ≤ b := (own_at o1).2.2.1
        have hbl : b < wr.heap.size := (own_at o1).2.2.2.1
        have hHr := hh.out.below b1
        have SC := Lib.hid (sort_chns C L (fun c hc => pm.subset hc) hLn (by have := pm.length_eq; omega) b vc wr (own_lower o1 (Nat.zero_le _)) (fun c hc => by
          have hc' := hHr.each c hc
          have f1 := hh.out.Flt _ hc'.bF
          exact ⟨⟨hc'.box, hc'.kv⟩, hc'.kok, hc'.klen, by omega, fun x e => by have := hh.out.Flt _ (hc'.kF x e); omega⟩) (fun a ha d hd e => hHr.same_key ha hd e))
        have hB9 := Lib.hid b1
        have pmh := Lib.hid pm
        clear o1 b1 pm hHr
        go_wp2_with fail
        refine SC.out.mono ?_
        rintro e ws ⟨rfl, S, hSp, hSs, ownS, growS⟩
        have hSl : S.length = L.length := hSp.length_eq
        have hbs : Hid (Below w.heap.size w ws) := Lib.hid (hB9.out.trans (grown_below growS hB9.out.size (fun g e => by injection e with e; omega)))
        have hSC := Lib.hid (hSp.trans pmh.out)
        have hcell := Lib.hid (show ∀ W : World, W.heap[b]? = ws.heap[b]? → ∀ t (ht : t < S.length), W.cell? ⟨b, t, none⟩ = some (chnP S[t]) from fun W hW t ht => by
          refine (World.cell?_of_block (a := ⟨b, t, none⟩) hW).trans ?_
          refine (own_at ownS).2.2.2.2.1 t _ ?_
          rw [List.getElem?_map, List.getElem?_eq_getElem ht]; rfl)
        have hbls : b < ws.heap.size := Nat.lt_of_lt_of_le hbl growS.size
        have hSsh := Lib.hid hSs
        have hbtag := Lib.hid (show ∀ cs f, ws.heap[b]? ≠ some (.cells cs 56 f) from fun cs f e => by
          obtain ⟨cs2, f2, q⟩ := own_tag ownS (k := b) rfl
          exact tag_ne e q (by decide) rfl)
        have hL9 : Hid (L.length ≤ 900) := Lib.hid (by have := pmh.out.length_eq; omega)
        clear SC hSp pmh ownS growS hSs hB9 hLn
        go_wp2_with fail
        go_loopg [6, 27] L.length (fun k s6 s27 W => ∃ (t : Nat) (A : Option Addr) (c : Nat) (Q : List Ent), k = L.length - t ∧ t ≤ L.length ∧ s27 = .int .i64 (t : Nat) ∧ s6 = .slice A Q.length c ∧ Hid (EntsOk W w.heap.size A c Q ∧ Q.map entP = entsOf (S.take t) ∧ Q.length ≤ t * 900 ∧ Below w.heap.size w W ∧ W.heap[b]? = ws.heap[b]? ∧ b < W.heap.size))
        case atStart => exact ⟨0, none, 0, [], by omega, by omega, rfl, rfl, Lib.hid ⟨EntsOk.nil _ _, rfl, by simp, hbs.out, rfl, hbls⟩⟩
        case round =>
          obtain ⟨t, A, c, Q, rfl, ht, rfl, rfl, hQ⟩ := hrel
          by_cases h1 : t < L.length
          · have h1' : (t : Int) < (L.length : Int) := by omega
            obtain ⟨Wt, rfl⟩ : ∃ Wt : World, Wt = wr := ⟨_, rfl⟩
            have ht2 : t < S.length := by omega
            have hdC : S[t] ∈ C := hSC.out.subset (List.getElem_mem ht2)
            have a1 : Wt.cell? ⟨b, t, none⟩ = some (chnP S[t]) := hcell.out Wt hQ.out.2.2.2.2.1 t ht2
            have hbW := hQ.out.2.2.2.2.2
            have htk := entsOf_take S ht2
            have hdl := hilh.out _ hdC
            have HD := Lib.hid (show ∀ W, Below w.heap.size w W → W.cell? ⟨S[t].b, 0, none⟩ = some (.slice S[t].kA S[t].key.length S[t].kc) ∧ W.cell? ⟨S[t].b, 1, none⟩ = some (.slice S[t].iA S[t].ids.length S[t].ic) ∧ S[t].b < W.heap.size ∧ ValsIn W S[t].kA S[t].key ∧ (S[t].kA = none → S[t].kc = 0 ∧ S[t].key.length = 0) ∧ S[t].key.length ≤ 1000 ∧ RowIn intC 1 W S[t].iA S[t].ids from fun W hW => by
              have hc := (hh.out.below hW).each _ hdC
              exact ⟨hc.box.cell 0, hc.box.cell 1, hc.box.lt, hc.kv, hc.kN, hc.klen, hc.row.1⟩)
            clear hdC
            generalize S[t] = d at *
            generalize d.iA = iA at *
            generalize d.ic = ic at *
            obtain ⟨d0, d1, d2, _⟩ := HD.out Wt hQ.out.2.2.2.1
            have hQ2 := Lib.hid (show EntsOk Wt w.heap.size A c Q ∧ Q.map entP = entsOf (S.take t) ++ (d.ids.take 0).map (fun i => (d.key, i)) ∧ Q.length ≤ t * 900 + 0 ∧ Below w.heap.size w Wt ∧ Wt.heap[b]? = ws.heap[b]? ∧ b < Wt.heap.size from ⟨hQ.out.1, by rw [hQ.out.2.1]; simp, by have := hQ.out.2.2.1; omega, hQ.out.2.2.2⟩)
            replace htk := Lib.hid htk
            clear hQ
            go_wp2_with fail
            go_loopg [6, 36] d.ids.length (fun k s6 s36 W => ∃ (j : Nat) (A : Option Addr) (c : Nat) (Q : List Ent), k = d.ids.length - j ∧ j ≤ d.ids.length ∧ s36 = .int .i64 (j : Nat) ∧ s6 = .slice A Q.length c ∧ Hid (EntsOk W w.heap.size A c Q ∧ Q.map entP = entsOf (S.take t) ++ (d.ids.take j).map (fun i => (d.key, i)) ∧ Q.length ≤ t * 900 + j ∧ Below w.heap.size w W ∧ W.heap[b]? = ws.heap[b]? ∧ b < W.heap.size))
            case atStart => exact ⟨0, A, c, Q, by omega, by omega, rfl, rfl, hQ2⟩
            case round =>
              clear hQ2
              obtain ⟨j, A3, c3, Q3, rfl, hj, rfl, rfl, hQ3⟩ := hrel
              by_cases h3 : j < d.ids.length
              · have h3' : (j : Int) < (d.ids.length : Int) := by omega
                obtain ⟨Wj, rfl⟩ : ∃ Wj : World, Wj = wr := ⟨_, rfl⟩
                obtain ⟨y1, y2, y3, y4, y5, y6⟩ := hQ3.out
                obtain ⟨z0, z1', z2, z3, z4, z5, z6⟩ := HD.out Wj y4
                obtain ⟨ib, io, rfl, _, hic⟩ := z6 j h3
                have e0 : Wj.cell? ⟨ib, io + j, none⟩ = some (.int .i64 d.ids[j]) := by have := hic j h3 0 _ rfl; simpa using this
                have SCP := Lib.hid (scopy_any d.kA d.kc d.key Wj (by omega) z4 z3)
                have hej : entsOf (S.take t) ++ (d.ids.take (j + 1)).map (fun i => (d.key, i)) = (entsOf (S.take t) ++ (d.ids.take j).map (fun i => (d.key, i))) ++ [(d.key, d.ids[j])] := by
                  rw [List.take_succ_eq_append_getElem h3, List.map_append, List.append_assoc]; rfl
                replace hej := Lib.hid hej
                have hQ3l : Hid (Q3.length ≤ 1000000) := Lib.hid (by have := hL9.out; omega)
                clear z3 z4 z5 z6 hic y1 y2 y3 y4 y5 y6
                generalize d.ids[j] = idv at *
                obtain ⟨i1, hi1, hy0, hy1, hy2⟩ := info_parts info_ent
                go_wp2_with fail
                refine SCP.out.mono ?_
                rintro e w5 ⟨v5, rfl, own5, hB5⟩
                obtain ⟨kA, kc, rfl⟩ := own_form9 own5
                have hq5 : Hid (ValsIn w5 kA d.key ∧ (∀ x, kA = some x → ∃ cs, Blk w5 x.block cs 32) ∧ (kA = none → kc = 0 ∧ d.key.length = 0)) := Lib.hid (by
                  obtain ⟨A9, c9, e9, _, _, _, hv⟩ := own_vals own5
                  injection e9 with e9
                  subst e9
                  exact ⟨hv, fun x e => own_blk9 own5 (by subst e; rfl), own_nil9 own5⟩)
                obtain ⟨y1, y2, y3, y4, y5, y6⟩ := hQ3.out
                have E6 : Hid (EntsOk (w5.alloc (.cells #[.slice kA d.key.length kc, .int .i64 idv] 56)) w.heap.size A3 c3 Q3) := Lib.hid ((y1.below hB5).below (by repeat (first | (with_reducible exact Below.refl _ _) | (with_reducible refine Below.drew ?_) | (with_reducible refine Below.alloc ?_ (by simp [more_size]; try omega) _) | (with_reducible refine Below.setCell ?_ (by simp [more_size]; try omega) _) | (with_reducible refine below_more ?_ _ (by simp [more_size]; try omega)))))
                have hb6 := Lib.hid (hB5.trans ((show Below w5.heap.size w5 (w5.alloc (.cells #[.slice kA d.key.length kc, .int .i64 idv] 56)) from (by repeat (first | (with_reducible exact Below.refl _ _) | (with_reducible refine Below.drew ?_) | (with_reducible refine Below.alloc ?_ (by simp [more_size]; try omega) _) | (with_reducible refine Below.setCell ?_ (by simp [more_size]; try omega) _) | (with_reducible refine below_more ?_ _ (by simp [more_size]; try omega))))).mono hB5.size))
                have news := Lib.hid (show ∀ ad, some (⟨w5.heap.size, 0, none⟩ : Addr) = some ad → ∀ j u, (entC ⟨kA, kc, d.key, idv⟩)[j]? = some u → (w5.alloc (.cells #[.slice kA d.key.length kc, .int .i64 idv] 56)).cell? (ad.add j) = some u from fun ad e j u hu => by
                  cases e
                  exact cells_at w5 (entC ⟨kA, kc, d.key, idv⟩) _ rfl j u hu)
                have hbase : Hid (w.heap.size ≤ (w5.alloc (.cells #[.slice kA d.key.length kc, .int .i64 idv] 56)).heap.size) := Lib.hid (Nat.le_trans y4.size hb6.out.size)
                have hrow := Lib.hid (show ∀ W2 A2 c2, W2.ownsRow w.heap.size 56 2 (.slice A2 (Q3.length + 1) c2) (Q3.length + 1) (rowC entC Q3 ++ entC ⟨kA, kc, d.key, idv⟩) → (w5.alloc (.cells #[.slice kA d.key.length kc, .int .i64 idv] 56)).grownBy W2 (Value.slice A3 Q3.length c3).ownBlock → Hid (EntsOk W2 w.heap.size A2 c2 (Q3 ++ [⟨kA, kc, d.key, idv⟩]) ∧ (Q3 ++ [(⟨kA, kc, d.key, idv⟩ : Ent)]).map entP = entsOf (S.take t) ++ (d.ids.take (j + 1)).map (fun i => (d.key, i)) ∧ (Q3 ++ [(⟨kA, kc, d.key, idv⟩ : Ent)]).length ≤ t * 900 + (j + 1) ∧ Below w.heap.size w W2 ∧ W2.heap[b]? = ws.heap[b]? ∧ b < W2.heap.size) from fun W2 A2 c2 own2 grow2 => by
                  have hbw : Below w.heap.size w (w5.alloc (.cells #[.slice kA d.key.length kc, .int .i64 idv] 56)) := y4.trans (hb6.out.mono y4.size)
                  obtain ⟨h1, h2, h3⟩ := hq5.out
                  have hb5k : (w5.alloc (.cells #[.slice kA d.key.length kc, .int .i64 idv] 56)).heap[b]? = ws.heap[b]? := (hb6.out.block b y6).trans y5
                  refine Lib.hid ⟨E6.out.push (q := ⟨kA, kc, d.key, idv⟩) own2 grow2 (And.intro (h1.below (by repeat (first | (with_reducible exact Below.refl _ _) | (with_reducible refine Below.drew ?_) | (with_reducible refine Below.alloc ?_ (by simp [more_size]; try omega) _) | (with_reducible refine Below.setCell ?_ (by simp [more_size]; try omega) _) | (with_reducible refine below_more ?_ _ (by simp [more_size]; try omega))))) (And.intro (fun x e => (by obtain ⟨cs, k⟩ := h2 x e; exact ⟨cs, k.alloc _⟩)) h3)), ?_, ?_, hbw.trans (grown_below grow2 hbw.size (fun g e => own_ge E6.out.own g e)), ?_, ?_⟩
                  · rw [hej.out, List.map_append, y2]; rfl
                  · simp; omega
                  · refine (grow2.block b (Nat.lt_of_lt_of_le y6 hb6.out.size) (fun e => ?_)).trans hb5k
                    obtain ⟨cs, f, q⟩ := own_tag E6.out.own e.symm
                    exact hbtag.out cs f (hb5k.symm.trans q)
                  · exact Nat.lt_of_lt_of_le (Nat.lt_of_lt_of_le y6 hb6.out.size) grow2.size)
                have hQ5 := hQ3l.out
                clear SCP own5 hB5 hq5 y1 y2 y3 y4 y5 y6 hQ3 hb6
                go_wp2_with (first
                  | (at_builtin; refine wpList_append_row rfl _ _ 46 rfl w.heap.size 56 i1 _ 2 32 Try.underlying46 hi1 hy0 hy1 hy2 rfl (by decide) (.slice A3 Q3.length c3) Q3.length (rowC entC Q3) rfl E6.out.own (some ⟨w5.heap.size, 0, none⟩) 1 1 (entC ⟨kA, kc, d.key, idv⟩) rfl (fun e => by cases e) rfl news.out (fun u hu => by simp [entC] at hu; rcases hu with rfl | rfl <;> rfl) (by unfold maxLen; omega) (by omega) hbase.out ?_; intro v2 W2 own2 grow2 loc2)
                  | fail)
                obtain ⟨A2, c2, rfl⟩ := own_form9 own2
                have hfin := hrow.out W2 A2 c2 own2 grow2
                have el : Q3.length + 1 = (Q3 ++ [(⟨kA, kc, d.key, idv⟩ : Ent)]).length := by simp
                clear own2 grow2 loc2 news E6 hrow
                go_wp2
                go_roundg (d.ids.length - (j + 1))
                case measure => omega
                case rel => exact ⟨j + 1, A2, c2, Q3 ++ [⟨kA, kc, d.key, idv⟩], rfl, by omega, by go_num, by rw [el], hfin⟩
              · have e : j = d.ids.length := by omega
                subst e
                have h3' : ((d.ids.length : Int) < (d.ids.length : Int)) = False := eq_false (by omega)
                have hQ4 := Lib.hid (show EntsOk wr w.heap.size A3 c3 Q3 ∧ Q3.map entP = entsOf (S.take (t + 1)) ∧ Q3.length ≤ (t + 1) * 900 ∧ Below w.heap.size w wr ∧ wr.heap[b]? = ws.heap[b]? ∧ b < wr.heap.size from ⟨hQ3.out.1, by rw [hQ3.out.2.1, htk.out, List.take_length], by have := hQ3.out.2.2.1; omega, hQ3.out.2.2.2⟩)
                have hL9' := hL9.out
                clear hQ3 h3 hj
                go_wp2
                go_roundg (L.length - (t + 1))
                case measure => omega
                case rel => exact ⟨t + 1, A3, c3, Q3, rfl, by omega, by go_num, rfl, hQ4⟩
          · have e : t = L.length := by omega
            subst e
            have h1' : ((L.length : Int) < (L.length : Int)) = False := eq_false (by omega)
            clear h1 ht
            go_wp2
            go_ret
            have hq := hQ.out
            rw [List.take_of_length_le (by omega)] at hq
            exact ⟨A, c, Q, S, rfl, Lib.hid ⟨hq.1, hq.2.1, hSC.out, hSsh.out, hq.2.2.2.1⟩⟩
    · intro x c kl y ps w1 cnt1 hkey hlx hR hat hrg1 hlt hg1 hs1 hen
      obtain ⟨o1, b1, z1, pm⟩ := hX.out
      obtain ⟨x', e1, e2, hwf⟩ := Go.Maps.keyOf_int_inv Try.underlying26 hkey
      injection e1 with _ e1
      subst e1
      subst e2
      obtain ⟨hx, rfl, hxl⟩ : ∃ hx : Nat, x = (hx : Int) ∧ hx < 18446744073709551616 := by
        have := (by simpa [Lit.wf, IntKind.min, IntKind.max, IntKind.signed, IntKind.bits] using hwf : 0 ≤ x ∧ x ≤ 18446744073709551615)
        exact ⟨x.toNat, by omega, by omega⟩
      have hy : y = .held c := by
        simp [heldE] at hR
        exact hR.1.symm
      subst hy
      obtain ⟨v, q1, q2, q3⟩ := hh.out.rows hx hxl
      have hvc : v = c := by
        have := hat (.held (.slice none 0 0))
        unfold atH at q1
        rw [this] at q1
        injection q1 with q1
        exact q1.symm
      subst hvc
      have bw1 : Below w.heap.size w w1 := b1.trans (show Below w.heap.size wr w1 from ⟨hg1.os, hg1.tape, hg1.output, hg1.size, fun k hk => hg1.block k (Nat.lt_of_lt_of_le hk b1.size) (fun e => by injection e with e; omega)⟩)
      obtain ⟨cA, cc, rfl⟩ := own_form9 q2
      have own0 : w1.ownsRow 0 62 1 (.slice cA (ofH C hx).length cc) (ofH C hx).length ((ofH C hx).map chnP) := own_same q2 (fun g hg => bw1.block g (own_lt9 q2 g hg))
      have hcA := Lib.hid (own_nil9 q2)
      have news := Lib.hid (show ∀ ad, cA = some ad → ∀ j u, ((ofH C hx).map chnP)[j]? = some u → w1.cell? (ad.add j) = some u from fun ad e j u hu => by
        subst e
        rcases own_form1 own0 with ⟨e, _, _⟩ | ⟨g0, e⟩
        · cases e
        · injection e with e
          subst e
          rw [Go.WideShapes.add_plain, Nat.zero_add]
          exact (own_at own0).2.2.2.2.1 j u hu)
      have ownL : Hid (w1.ownsRow (w.heap.size + 1) 62 1 (.slice vA L.length vc) L.length (L.map chnP)) := Lib.hid (own_same o1 (fun g hg => hg1.block g (own_lt9 o1 g hg) (fun e => by have := own_ge o1 g hg; injection e with e; omega)))
      have hLl : L.length ≤ 900 := by
        have h1 := pm.length_eq
        have h2 := List.length_filter_le (fun c => !left (hLit c)) C
        omega
      have hml : (ofH C hx).length ≤ 900 := Nat.le_trans (List.length_filter_le _ _) hCl
      have hz1' : Hid (w.heap.size + 1 ≤ w1.heap.size) := Lib.hid (by omega)
      have bwh := Lib.hid bw1
      have hoge : Hid (∀ g, (Value.slice vA L.length vc).ownBlock = some g → w.heap.size + 1 ≤ g) := Lib.hid (fun g e => own_ge o1 g e)
      have hpm : Hid ((L ++ ofH C hx).Perm (C.filter (fun c => !(left (hLit c) && !(hLit c).sameKey (.int .u64 (hx : Int)))))) := Lib.hid ((pm.append_right _).trans (perm_step C _ _ _ (fun a ha => by
        by_cases e : hashV a.key = hx
        · have : hLit a = .int .u64 ((hx : Nat) : Int) := by rw [← e]
          rw [this, WideAt.sameKey_self (show WideAt.IsKeyLit (.int .u64 ((hx : Nat) : Int)) from trivial), e]
          simp
        · have hne : hLit a ≠ .int .u64 ((hx : Nat) : Int) := fun q => e (by injection q with _ q; omega)
          rw [Go.Maps.sameKey_ne hne]
          simp [e]) (fun a ha hp => by
        cases hq : (hashV a.key == hx) with
        | false => rfl
        | true =>
          have e : hashV a.key = hx := by simpa using hq
          have : hLit a = .int .u64 ((hx : Nat) : Int) := by rw [← e]
          rw [this, hlx] at hp
          cases hp)))
      have hrgh := Lib.hid hrg1
      clear own0 q1 q2 q3 hat o1 b1 z1 pm hX bw1 hR hkey hwf
      go_wp2_with (first
        | (at_builtin; refine wpList_append_row rfl _ _ 68 rfl (w.heap.size + 1) 62 i0 _ 1 8 Try.underlying68 hi0 hz0 hz1 hz2 rfl (by decide) (.slice vA L.length vc) L.length (L.map chnP) rfl ownL.out cA (ofH C hx).length cc ((ofH C hx).map chnP) rfl hcA.out (by simp) news.out (fun u hu => by obtain ⟨a, _, rfl⟩ := List.mem_map.1 hu; rfl) (by unfold maxLen; omega) (by omega) hz1'.out ?_; intro v2 W2 own2 grow2 loc2)
        | fail)
      obtain ⟨vA2, vc2, rfl⟩ := own_form9 own2
      have hrg2 := Lib.hid (hrgh.out.kept grow2 (fun e => by have := hoge.out M e.symm; omega) (fun e => by have := hoge.out _ e.symm; omega))
      have hfin := Lib.hid (show W2.ownsRow (w.heap.size + 1) 62 1 (.slice vA2 (L ++ ofH C hx).length vc2) (L ++ ofH C hx).length ((L ++ ofH C hx).map chnP) ∧ Below w.heap.size w W2 ∧ w.heap.size < W2.heap.size from by
        have hz2 := grow2.size
        have hz3 := hz1'.out
        refine ⟨by rw [List.length_append, List.map_append]; exact own2, bwh.out.trans (grown_below grow2 bwh.out.size (fun g e => by have := hoge.out g e; omega)), by omega⟩)
      clear own2 grow2 loc2 news ownL hcA
      go_wp2
      go_roundw
      case rel => exact ⟨_, cnt1, L ++ ofH C hx, vA2, vc2, by rw [List.length_append], hrg2.out, Lib.hid ⟨hfin.out.1, hfin.out.2.1, hfin.out.2.2, hpm.out⟩⟩
      case measure => rw [hrg2.out.left_eq, hrg.left_eq]; exact hlt
end
end Go.Proofs.Ytijegkiapbmekaa
