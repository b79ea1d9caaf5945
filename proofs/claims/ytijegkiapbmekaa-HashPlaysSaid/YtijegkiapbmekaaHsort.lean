/- Package hashidx: the chains sorted by their keys. -/
import Derived.Test.YtijegkiapbmekaaHgrow
import Derived.Test.YtijegkiapbmekaaRowsP
set_option maxRecDepth 100000
set_option linter.unusedVariables false
set_option linter.unusedSimpArgs false
namespace Go.Proofs.Ytijegkiapbmekaa
open Go.RowKit Go.Sort Go.Shelf
open Go.Maps (has size Keyed int_keyed keyOf_int_mk)
attribute [local go_sem] run_frombits run_tobits more_more more_drew more_drewN more_size more_cell more_frozen run_store_float lt_c1 le_c1 lt_s1 le_s1 lt_c2 le_c2 lt_s2 le_s2 lt_c3 le_c3 lt_s3 le_s3 lt_c4 le_c4 lt_s4 le_s4 lt_c5 le_c5 lt_s5 le_s5 lt_c6 le_c6 lt_s6 le_s6 lt_c7 le_c7 lt_s7 le_s7 lt_c8 le_c8 lt_s8 le_s8 lt_c9 le_c9 lt_s9 le_s9 lt_c10 le_c10 lt_s10 le_s10 lt_c11 le_c11 lt_s11 le_s11 lt_c12 le_c12 lt_s12 le_s12 le_c0
/-- a chain as the comparison reads it -/
def ChK (w : World) (c : Chn) : Prop := Blk w c.b #[.slice c.kA c.key.length c.kc, idsS c] 66 ∧ ValsIn w c.kA c.key
set_option maxHeartbeats 1000000 in
theorem all1_any (c d : Chn) (hc : allOk c.key) (hd : allOk d.key) (lc : c.key.length ≤ 1000) (ld : d.key.length ≤ 1000) (w : World) (h1 : ChK w c) (h2 : ChK w d) :
    Calls Try.prog 36 #[chnP c, chnP d] w fun e w' => e = .returned (.int .i64 (rowsV c.key d.key)) ∧ ∃ q os, w' = grow (w.drewN q) os := by
  have mixed : Try.prog.follows .mixedOrders = true := by kernel_rfl
  have C0 := fun n os => cell_grown h1.1.lt (h1.1.cell 0) n os
  have D0 := fun n os => cell_grown h2.1.lt (h2.1.cell 0) n os
  have RG := Lib.hid (fun n os => rows_grow c.kA d.kA c.kc d.kc c.key d.key hc hd (grow (w.drewN n) os) (by omega) (by omega) (h1.2.below (grow_below9 w n os)) (h2.2.below (grow_below9 w n os)))
  clear h1 h2 hc hd
  go_enter Try.func36, Try.ntmps36
  go_wp2_with fail
  go_quiet_grown (first | (go_at_call 37; refine Calls.grown_of (RG.out _ _)))
  dsimp only
  clear C0 D0 RG
  go_wp2
  go_ret
  exact ⟨rfl, _, _, rfl⟩
theorem swo9 {α : Type} (f : α → List Val) : SWO (ltOf (fun x y : α => rowsV (f x) (f y))) where
  irrefl x := by
    show decide (rowsV (f x) (f x) < 0) = false
    rw [rowsV_refl]; rfl
  trans x y z h1 h2 := by
    unfold ltOf at *
    simp only [decide_eq_true_eq] at *
    exact rows_is.lt_of (x := f x) (y := f y) (z := f z) h1 (by omega)
  ntrans x y z h1 h2 := by
    unfold ltOf at *
    simp only [decide_eq_false_iff_not] at *
    have a := rowsV_anti (f x) (f y)
    have b := rowsV_anti (f y) (f z)
    have c := rowsV_anti (f x) (f z)
    have := rowsV_trans (f z) (f y) (f x) (by omega) (by omega)
    omega
set_option maxHeartbeats 1000000 in
theorem sort_chns (C L : List Chn) (hL : ∀ c ∈ L, c ∈ C) (hne : L ≠ []) (hl : L.length ≤ 1000000) (b cap : Nat) (w : World) (own : w.ownsRow 0 62 1 (.slice (some ⟨b, 0, none⟩) L.length cap) L.length (L.map chnP))
    (hC : ∀ c ∈ C, ChK w c ∧ allOk c.key ∧ c.key.length ≤ 1000 ∧ c.b ≠ b ∧ ∀ x, c.kA = some x → x.block ≠ b) (hK : ∀ a ∈ C, ∀ d ∈ C, a.key = d.key → a = d) :
    Calls Try.prog 35 #[.slice (some ⟨b, 0, none⟩) L.length cap, .func (.func 36) #[] #[]] w fun e w' => e = .returned (.tuple #[]) ∧ ∃ S : List Chn, S.Perm L ∧ S.Pairwise (fun a d => rowsV a.key d.key ≤ 0) ∧
      w'.ownsRow 0 62 1 (.slice (some ⟨b, 0, none⟩) L.length cap) L.length (S.map chnP) ∧ w.grownBy w' (some b) := by
  obtain ⟨q1, q2, q3, q4, _, _⟩ := own_at own
  obtain ⟨cur, hcur, hsz, htk⟩ : ∃ cur, w.heap[b]? = some (.cells cur 62 (0, 0)) ∧ cur.size = cap * 1 ∧ cur.toList.take L.length = L.map chnP := by
    rcases own.2 with ⟨hv, _⟩ | ⟨g', cap', cur, hv, _, hblk, _, _, hcs, ht⟩
    · cases hv
    · injection hv with h1 h2 h3
      injection h1 with h1
      injection h1 with h1
      subst h1 h3
      exact ⟨cur, hblk, hcs, by rw [Nat.mul_one] at ht; exact ht⟩
  obtain ⟨c0, hc0⟩ := List.exists_mem_of_ne_nil _ hne
  letI : Inhabited {c : Chn // c ∈ C} := ⟨⟨c0, hL _ hc0⟩⟩
  let D : List {c : Chn // c ∈ C} := L.attach.map (fun c => ⟨c.1, hL _ c.2⟩)
  let enc : {c : Chn // c ∈ C} → Value := fun c => chnP c.1
  have hDl : D.length = L.length := by simp [D]
  have hDv : D.map Subtype.val = L := by
    simp only [D, List.map_map]
    conv => rhs; rw [← List.attach_map_subtype_val L]
    rfl
  have hDe : D.map enc = L.map chnP := by
    have := congrArg (List.map chnP) hDv
    rw [List.map_map] at this
    exact this
  have eg : ∀ args w, (callFunc 36 args).run Try.prog w = .ok (.enter 36 args) w := enters_of Try.func36 (by kernel_rfl) rfl
  have hcmp : CmpLays1 Try.prog 36 #[] enc (fun x y => rowsV x.1.key y.1.key) b 0 D.toArray.size w := fun m os dk _ x y => by
    obtain ⟨⟨x1, x2⟩, x3, x4, x5, x6⟩ := hC x.1 x.2
    obtain ⟨⟨y1, y2⟩, y3, y4, y5, y6⟩ := hC y.1 y.2
    have sz : w.heap.size ≤ (sortWorld enc w b 0 m dk os).heap.size := by
      unfold sortWorld
      simp
    have vs : ∀ {A : Option Addr} {l : List Val}, ValsIn w A l → (∀ z, A = some z → z.block ≠ b) → ValsIn (sortWorld enc w b 0 m dk os) A l := fun h hn j hj => by
      obtain ⟨bb, off, e0, hb, _⟩ := h j hj
      refine (h.same sz (fun z e => ?_)) j hj
      rw [e0] at e
      injection e with e
      exact sort_blk9 enc (by rw [← e]; exact hb) (hn z (by rw [e0, e]))
    exact all1_any x.1 y.1 x3 y3 x4 y4 _ ⟨(sort_blk9 enc x1.lt x5).trans x1, vs x2 x6⟩ ⟨(sort_blk9 enc y1.lt y5).trans y1, vs y2 y6⟩
  have hcon := Any.slices_SortFunc_total Try.sortC9 enc (fun _ => rfl) (fun x y => rowsV x.1.key y.1.key) (swo9 (fun x : {c : Chn // c ∈ C} => x.1.key)) 36 #[] b 0 cap D.toArray w eg hcmp (holds_put9 enc (ss := D) hcur (by rw [hDl, hDe]; exact htk)) q4 (by simp [D]; omega) (fun x y h1 h2 => by
    unfold ltOf at h1 h2
    simp only [decide_eq_false_iff_not] at h1 h2
    have h3 := rowsV_anti x.1.key y.1.key
    exact Subtype.ext (hK _ x.2 _ y.2 (rowsV_zero _ _ (hC _ x.2).2.1 (hC _ y.2).2.1 (by omega))))
  change Calls Try.prog 35 _ _ _ at hcon
  simp only [List.size_toArray, hDl] at hcon
  refine hcon.mono ?_
  rintro e w' ⟨rfl, n, os, rfl⟩
  have hp := List.mergeSort_perm D (fun x y => !(ltOf (fun x y : {c : Chn // c ∈ C} => rowsV x.1.key y.1.key)) y x)
  have hs := List.pairwise_mergeSort (le := fun x y => !(ltOf (fun x y : {c : Chn // c ∈ C} => rowsV x.1.key y.1.key)) y x) (fun a d f h1 h2 => by
    unfold ltOf at *
    simp only [Bool.not_eq_true', decide_eq_false_iff_not] at *
    have a1 := rowsV_anti a.1.key d.1.key
    have a2 := rowsV_anti d.1.key f.1.key
    have a3 := rowsV_anti a.1.key f.1.key
    have := rowsV_trans a.1.key d.1.key f.1.key (by omega) (by omega)
    omega) (fun a d => by
    unfold ltOf
    simp only [Bool.or_eq_true, Bool.not_eq_true', decide_eq_false_iff_not]
    have a1 := rowsV_anti a.1.key d.1.key
    omega) D
  have hll : (D.mergeSort (fun x y => !(ltOf (fun x y : {c : Chn // c ∈ C} => rowsV x.1.key y.1.key)) y x)).length = L.length := by rw [hp.length_eq, hDl]
  generalize D.mergeSort (fun x y => !(ltOf (fun x y : {c : Chn // c ∈ C} => rowsV x.1.key y.1.key)) y x) = S at *
  refine ⟨rfl, S.map Subtype.val, ?_, ?_, ?_, ?_⟩
  · rw [← hDv]; exact hp.map _
  · refine List.pairwise_map.2 (hs.imp (fun {a d} h => ?_))
    unfold ltOf at h
    simp only [Bool.not_eq_true', decide_eq_false_iff_not] at h
    have := rowsV_anti a.1.key d.1.key
    omega
  · have o := own_put9 enc (ts := S) (zs := []) (q := n) (base := 0) (Nat.zero_le _) hcur (by simp; omega) (by unfold maxLen; omega) hsz
    rw [List.append_nil, hll] at o
    have e : (S.map Subtype.val).map chnP = S.map enc := by rw [List.map_map]; rfl
    rw [e]
    refine own_same o (fun g hg => ?_)
    injection hg with hg
    subst hg
    unfold sortWorld
    exact heap_grow_old _ _ (by simpa using q4)
  · refine ⟨rfl, rfl, rfl, ?_, fun k hk hn => sort_blk9 enc hk (fun e => hn (by rw [e]))⟩
    unfold sortWorld
    simp
end Go.Proofs.Ytijegkiapbmekaa
