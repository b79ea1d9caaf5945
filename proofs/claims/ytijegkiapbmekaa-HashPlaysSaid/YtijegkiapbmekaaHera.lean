/- Package hashidx: Erase of what is there, where rows are left. -/
import Derived.Test.YtijegkiapbmekaaHmod
import Derived.Test.YtijegkiapbmekaaHdel
import Derived.Test.YtijegkiapbmekaaHsins
import Derived.Deep.RegionHeld3
set_option maxRecDepth 100000
set_option linter.unusedVariables false
set_option linter.unusedSimpArgs false
namespace Go.Proofs.Ytijegkiapbmekaa
open Go.RowKit
open Go.Maps (has size Keyed int_keyed keyOf_int_mk)
attribute [local go_sem] run_frombits run_tobits more_more more_drew more_drewN more_size more_cell more_frozen run_store_float lt_c1 le_c1 lt_s1 le_s1 lt_c2 le_c2 lt_s2 le_s2 lt_c3 le_c3 lt_s3 le_s3 lt_c4 le_c4 lt_s4 le_s4 lt_c5 le_c5 lt_s5 le_s5 lt_c6 le_c6 lt_s6 le_s6 lt_c7 le_c7 lt_s7 le_s7 lt_c8 le_c8 lt_s8 le_s8 lt_c9 le_c9 lt_s9 le_s9 lt_c10 le_c10 lt_s10 le_s10 lt_c11 le_c11 lt_s11 le_s11 lt_c12 le_c12 lt_s12 le_s12 le_c0
def without (ids : List Int) (id : Int) : List Int := ids.filter (fun y => !(y == id))
section
variable {w w' : World} {F Y : Nat → Prop} {p M : Nat} {D : DataW Value} {u : Bool} {n : Int} {C : List Chn} {key : List Val}
/-- the call of DeleteFunc within Erase -/
theorem era_del {V : World} (h : HM V F p M D u n C) {c : Chn} (hc : c ∈ C) (hl : c.ids.length ≤ 1000) {id : Int} (hid : id ∈ c.ids) {ib bq : Nat} (hib : Blk V ib #[.int .i64 id] 2) (hbq : Blk V bq #[chnP c] 62) (nib : ¬ F ib) (nbq : ¬ F bq) :
    Calls Try.prog 31 #[idsS c, .func (.func 32) #[] #[.pointer (some ⟨ib, 0, none⟩)]] V.drew fun e w' => ∃ iA ic, e = .returned (.slice iA (without c.ids id).length ic) ∧
      Hid (∃ F', HM (w'.setCell ⟨c.b, 1, none⟩ (.slice iA (without c.ids id).length ic)) F' p M D u n (C.map (updC c.b iA ic (without c.ids id))) ∧ Chg F V (w'.setCell ⟨c.b, 1, none⟩ (.slice iA (without c.ids id).length ic)) ∧ Grew V F F' ∧ ¬ F' bq ∧ Blk (w'.setCell ⟨c.b, 1, none⟩ (.slice iA (without c.ids id).length ic)) bq #[chnP c] 62) ∧
      w'.cell? ⟨c.b, 1, none⟩ = some (idsS c) ∧ w'.frozen? ⟨c.b, 1, none⟩ = false ∧ c.b < w'.heap.size ∧ w'.cell? ⟨bq, 0, none⟩ = some (chnP c) ∧ bq < w'.heap.size := by
  have h1 : HM V.drew F p M D u n C := h.below (by repeat (first | (with_reducible exact Below.refl _ _) | (with_reducible refine Below.drew ?_) | (with_reducible refine Below.alloc ?_ (by simp [more_size]; try omega) _) | (with_reducible refine Below.setCell ?_ (by simp [more_size]; try omega) _) | (with_reducible refine below_more ?_ _ (by simp [more_size]; try omega))))
  have hC := h1.each c hc
  have hC0 := h.each c hc
  obtain ⟨b, hiA⟩ : ∃ b, c.iA = some ⟨b, 0, none⟩ := by
    rcases own_form1 hC.ids with ⟨_, q, _⟩ | q
    · rw [List.length_eq_zero_iff] at q; rw [q] at hid; cases hid
    · exact q
  have own := hC.ids
  have e0 : idsS c = .slice (some ⟨b, 0, none⟩) c.ids.length c.ic := by unfold idsS; rw [hiA]
  rw [e0] at own ⊢
  have hbF : F b := hC.iF b (by rw [e0]; rfl)
  refine (del_ids c.ids b c.ic 0 ib id V.drew own hib (fun e => nib (e ▸ hbF))).mono ?_
  rintro e w3 ⟨rfl, own3, grow3⟩
  have nb : some c.b ≠ some b := fun e => by
    obtain ⟨cs2, f2, q⟩ := own_tag own (k := b) rfl
    exact tag_ne q hC.box (by decide) (by injection e with e; exact e.symm)
  have nq : some bq ≠ some b := fun e => nbq (by injection e with e; rw [e]; exact hbF)
  have hbx : Blk w3 c.b #[.slice c.kA c.key.length c.kc, idsS c] 66 := (grow3.block c.b hC.box.lt nb).trans hC.box
  have hbq3 : Blk w3 bq #[chnP c] 62 := (grow3.block bq hbq.lt nq).trans hbq
  have h4 := h1.ids_mid hc grow3.size (fun k hk hne => grow3.block k hk (fun e => hne (by rw [e0]; exact e.symm))) own3 (.inl (by rw [e0]; rfl))
  have hcl : bq ≠ c.b := tag_ne hbq hC.box (by decide)
  refine ⟨_, _, rfl, Lib.hid ⟨_, h4, ?_, ⟨fun k hk => .inl hk, fun k hk => hk.imp (fun q => q) (fun q => q.1)⟩, (fun q => q.elim nbq (fun r => by have := hbq.lt; have h2 := r.1; simp at h2; omega)), ?_⟩, by rw [← e0]; exact hbx.cell 1, hbx.free 1, hbx.lt, hbq3.cell 0, hbq3.lt⟩
  · exact ((Chg.of_below (by repeat (first | (with_reducible exact Below.refl _ _) | (with_reducible refine Below.drew ?_) | (with_reducible refine Below.alloc ?_ (by simp [more_size]; try omega) _) | (with_reducible refine Below.setCell ?_ (by simp [more_size]; try omega) _) | (with_reducible refine below_more ?_ _ (by simp [more_size]; try omega))))).then (Chg.of_grown grow3 (fun g e => by injection e with e; rw [← e]; exact hbF))).then (Chg.set ⟨c.b, 1, none⟩ _ hC.bF)
  · exact (Below.heap_setCell w3 _ _ bq hcl).trans hbq3
set_option maxHeartbeats 8000000 in
theorem hera_some (h : HM w F p M D u n C) (A : Option Addr) (ca : Nat) (hok : allOk key) (lk : key.length ≤ 1000) (ha : ValsIn w A key) {c : Chn} (hc : c ∈ C) (hk : c.key = key) (hl : c.ids.length ≤ 1000) (id : Int) (hid : id ∈ c.ids) (hn : 0 ≤ n ∧ n ≤ 1000) (hR : without c.ids id ≠ []) :
    Calls Try.prog 18 #[.pointer (some ⟨p, 0, none⟩), .slice A key.length ca, .int .i64 id] w fun e w' => e = .returned (.int .i64 0) ∧ ∃ iA ic F', HM w' F' p M D u (n - 1) (C.map (updC c.b iA ic (without c.ids id))) ∧ Chg F w w' ∧ Grew w F F' := by
  have FD := Lib.hid (fun W (hB : Below w.heap.size w W) => find_any (h.below hB) A ca hok lk (ha.below hB))
  have fe := fnd_yes h hc hk
  rw [fe] at FD
  have hC := h.each c hc
  have hbl := hC.box.lt
  have cc := Lib.hid (fun W (hB : Below w.heap.size w W) => ((hB.cell (p := ⟨c.b, 1, none⟩) hC.box.lt).trans (hC.box.cell 1) : W.cell? ⟨c.b, 1, none⟩ = some (idsS c)))
  have CT := Lib.hid (fun W (hB : Below w.heap.size w W) => contains_any c.iA c.ic c.ids id W (by omega) (hC.row.1.below hB))
  rw [decide_eq_true hid] at CT
  have hFlt := Lib.hid h.Flt
  have hpF := h.pF
  have hw1 : wrap64 (n - 1) = n - 1 := by unfold wrap64; omega
  have hw2 : IntKind.i64.wrap (n - 1) = n - 1 := IntWalk.i64_in _ (by omega)
  have hR0 : (0 : Int) < ((without c.ids id).length : Int) := by have := List.length_pos_iff.2 hR; omega
  have hh := Lib.hid h
  have hidh := Lib.hid hid
  clear h hC ha hok hid hR
  go_enter Try.func18, Try.ntmps18
  go_wp2_with fail
  refine calls_at (R := fun W => Below w.heap.size w W ∧ Blk W w.heap.size #[.int .i64 id] 2) ⟨(by repeat (first | (with_reducible exact Below.refl _ _) | (with_reducible refine Below.drew ?_) | (with_reducible refine Below.alloc ?_ (by simp [more_size]; try omega) _) | (with_reducible refine Below.setCell ?_ (by simp [more_size]; try omega) _) | (with_reducible refine below_more ?_ _ (by simp [more_size]; try omega)))), Blk.new _ _ _ rfl⟩ ?_
  rintro W ⟨hB, hib⟩
  refine (FD.out W hB).mono' ?_; intro x
  have hB2 := hB.trans ((more_below W x).mono hB.size)
  have c1 := cc.out _ hB2
  have hib2 := hib.more x
  have hcb : c.b < (more W x).heap.size := Nat.lt_of_lt_of_le hbl hB2.size
  have CT2 := Lib.hid (fun V (hV : Below (more W x).heap.size (more W x) V) => CT.out V (hB2.trans (hV.mono hB2.size)))
  replace hB2 := Lib.hid hB2
  clear hB hib
  generalize more W x = W2 at *
  clear FD CT cc
  go_upto_region 2 with fail
  obtain ⟨bq, hbq⟩ : ∃ bq, bq = W2.heap.size := ⟨_, rfl⟩
  refine wp_named9 (R := fun V => Blk V bq #[chnP c] 62 ∧ V.cell? ⟨c.b, 1, none⟩ = some (idsS c) ∧ Blk V w.heap.size #[.int .i64 id] 2 ∧ Below W2.heap.size W2 V) ⟨Blk.new _ _ _ hbq, ?_, hib2.alloc _, (by repeat (first | (with_reducible exact Below.refl _ _) | (with_reducible refine Below.drew ?_) | (with_reducible refine Below.alloc ?_ (by simp [more_size]; try omega) _) | (with_reducible refine Below.setCell ?_ (by simp [more_size]; try omega) _) | (with_reducible refine below_more ?_ _ (by simp [more_size]; try omega))))⟩ ?_
  · exact ((show Below W2.heap.size W2 (W2.alloc (.cells #[chnP c] 62)) from (by repeat (first | (with_reducible exact Below.refl _ _) | (with_reducible refine Below.drew ?_) | (with_reducible refine Below.alloc ?_ (by simp [more_size]; try omega) _) | (with_reducible refine Below.setCell ?_ (by simp [more_size]; try omega) _) | (with_reducible refine below_more ?_ _ (by simp [more_size]; try omega))))).cell (p := ⟨c.b, 1, none⟩) hcb).trans c1
  rintro V ⟨hbV, c2, hib3, hV⟩
  have c3 : V.cell? ⟨bq, 0, none⟩ = some (chnP c) := hbV.cell 0
  have c4 : V.cell? ⟨w.heap.size, 0, none⟩ = some (.int .i64 id) := hib3.cell 0
  have l3 := hbV.lt
  have l4 := hib3.lt
  have l2 : c.b < V.heap.size := Nat.lt_of_lt_of_le hcb hV.size
  have hbqw : w.heap.size ≤ bq := by rw [hbq]; exact hB2.out.size
  rw [← hbq]
  have CT3 := Lib.hid (fun y => gives_of_same (CT2.out (more V y) (hV.trans ((more_below V y).mono hV.size))))
  have hBV := Lib.hid (hB2.out.trans (hV.mono hB2.out.size))
  clear hV CT2 c1 hbq hib2 hcb hB2
  replace hbV := Lib.hid hbV
  replace hib3 := Lib.hid hib3
  refine wp_region_more (by kernel_rfl) (by kernel_rfl) ?_
  repeat (go_big_quiet_step (((with_reducible exact (CT3.out _).at_))))
  refine wpQuiet_nil ?_
  rintro _ ⟨z, rfl⟩
  have hV5 := more_below V z
  clear CT3
  generalize more V z = V5 at *
  have c5 : V5.cell? ⟨bq, 0, none⟩ = some (chnP c) := (hV5.cell (p := ⟨bq, 0, none⟩) l3).trans c3
  have c6 : V5.cell? ⟨c.b, 1, none⟩ = some (idsS c) := (hV5.cell (p := ⟨c.b, 1, none⟩) l2).trans c2
  have l5 : bq < V5.heap.size := Nat.lt_of_lt_of_le l3 hV5.size
  have l6 : c.b < V5.heap.size := Nat.lt_of_lt_of_le l2 hV5.size
  have hB5 := Lib.hid (hBV.out.trans (hV5.mono hBV.out.size))
  have nF : ∀ k, w.heap.size ≤ k → ¬ F k := fun k hk e => by have := hFlt.out k e; omega
  have DEL := Lib.hid (era_del (hh.out.below hB5.out) hc hl hidh.out ((hV5.block _ l4).trans hib3.out) ((hV5.block _ l3).trans hbV.out) (nF _ (Nat.le_refl _)) (nF _ hbqw))
  clear c2 c3 c4 l2 l3 l4 hBV hbV hib3 hV5 nF hFlt
  go_upto_region 4 with fail
  go_region_law (go_simp; go_at_call 31; refine (DEL.out).mono ?_; rintro e w3 ⟨iA, ic, rfl, hF, a1, a2, a3, a4, a5⟩)
  all_goals
    obtain ⟨F', h6, hCh, hGr, nq, hbq6⟩ := hF.out
    clear DEL a1 a2 a3 a4 a5 c5 c6 l5 l6 hF
    generalize w3.setCell ⟨c.b, 1, none⟩ (.slice iA (without c.ids id).length ic) = W6 at *
    have h7 := h6.count (n - 1)
    have e1 : W6.cell? ⟨p, 2, none⟩ = some (.int .i64 n) := h6.box.cell 2
    have e2 : W6.frozen? ⟨p, 2, none⟩ = false := h6.box.free 2
    have hc7 := h7.each _ (List.mem_map.2 ⟨c, hc, rfl⟩)
    rw [updC_same rfl] at hc7
    have e3 : (W6.setCell ⟨p, 2, none⟩ (.int .i64 (n - 1))).cell? ⟨c.b, 1, none⟩ = some (.slice iA (without c.ids id).length ic) := hc7.box.cell 1
    have hbq7 : Blk (W6.setCell ⟨p, 2, none⟩ (.int .i64 (n - 1))) bq #[chnP c] 62 := (Below.heap_setCell W6 ⟨p, 2, none⟩ _ bq (tag_ne hbq6 h6.box (by decide))).trans hbq6
    have e4 : (W6.setCell ⟨p, 2, none⟩ (.int .i64 (n - 1))).cell? ⟨bq, 0, none⟩ = some (chnP c) := hbq7.cell 0
    have hC7 := Lib.hid (((Chg.of_below hB5.out).then hCh).then (Chg.set ⟨p, 2, none⟩ (.int .i64 (n - 1)) hpF))
    have hG7 := Lib.hid (show Grew w F F' from ⟨hGr.1, fun k hk => (hGr.2 k hk).imp (fun q => q) (fun q => Nat.le_trans hB5.out.size q)⟩)
    have lp : p < W6.heap.size := h6.box.lt
    replace h7 := Lib.hid h7
    clear h6 hCh hGr nq hbq6 hc7 hbq7 hB5 hh hidh
    go_wp2
    go_ret
    exact ⟨rfl, iA, ic, F', h7.out, hC7.out, hG7.out⟩
end
end Go.Proofs.Ytijegkiapbmekaa
