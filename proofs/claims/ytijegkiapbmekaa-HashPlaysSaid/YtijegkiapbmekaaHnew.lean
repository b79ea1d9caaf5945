/- Package hashidx: Insert with a key that is new. -/
import Derived.Test.YtijegkiapbmekaaHadd
import Derived.Deep.CutRange
set_option maxRecDepth 100000
set_option linter.unusedVariables false
set_option linter.unusedSimpArgs false
namespace Go.Proofs.Ytijegkiapbmekaa
open Go.RowKit
open Go.Maps (has size Keyed int_keyed keyOf_int_mk)
attribute [local go_sem] run_frombits run_tobits more_more more_drew more_drewN more_size more_cell more_frozen run_store_float lt_c1 le_c1 lt_s1 le_s1 lt_c2 le_c2 lt_s2 le_s2 lt_c3 le_c3 lt_s3 le_s3 lt_c4 le_c4 lt_s4 le_s4 lt_c5 le_c5 lt_s5 le_s5 lt_c6 le_c6 lt_s6 le_s6 lt_c7 le_c7 lt_s7 le_s7 lt_c8 le_c8 lt_s8 le_s8 lt_c9 le_c9 lt_s9 le_s9 lt_c10 le_c10 lt_s10 le_s10 lt_c11 le_c11 lt_s11 le_s11 lt_c12 le_c12 lt_s12 le_s12 le_c0
theorem own_blk9 {w : World} {base : Nat} {e : TypeId} {s n : Nat} {v : Value} {xs : List Value} (h : w.ownsRow base e s v n xs) {k : Nat} (hk : v.ownBlock = some k) : ∃ cs, Blk w k cs e := by
  rcases h.2 with ⟨rfl, _⟩ | ⟨g, cap, cur, rfl, _, hgg, _⟩
  · simp [Value.ownBlock] at hk
  · simp [Value.ownBlock] at hk; subst hk; exact ⟨cur, hgg⟩
section
variable {w w' : World} {F Y : Nat → Prop} {p M : Nat} {D : DataW Value} {u : Bool} {n : Int} {C : List Chn} {key : List Val}
set_option maxHeartbeats 4000000 in
theorem hins_new (h : HM w F p M D u n C) (A : Option Addr) (ca : Nat) (hok : allOk key) (lk : key.length ≤ 1000) (hA : A = none → ca = 0 ∧ key.length = 0) (ha : ValsIn w A key) (hno : ∀ c ∈ C, c.key ≠ key) (id : Int) (hn : 0 ≤ n ∧ n ≤ 1000) (hCl : C.length ≤ 1000) :
    Calls Try.prog 9 #[.pointer (some ⟨p, 0, none⟩), .slice A key.length ca, .int .i64 id] w fun e w' => e = .returned (.int .i64 0) ∧ ∃ c F' D', c.key = key ∧ c.ids = [id] ∧ HM w' F' p M D' u (n + 1) (C ++ [c]) ∧ Chg F w w' ∧ Grew w F F' := by
  obtain ⟨i0, hi, hz0, hz1, hz2⟩ := info_parts info_chp
  have FD := Lib.hid (find_any h A ca hok lk ha)
  rw [fnd_no h hok hno] at FD
  have CP := Lib.hid (fun x => scopy_any A ca key (more w x) (by omega) hA (ha.more x))
  have HG := Lib.hid (fun W (hW : Below w.heap.size w W) => hash_any A ca key hok W (by omega) (ha.below hW))
  have hkey : Hid (keyOf Try.prog 26 (.int .u64 (hashV key : Nat)) = some (.int .u64 (hashV key : Nat))) := Lib.hid (keyOf_int_mk Try.underlying26 (WalkArith.wf_u64 (by have := hashV_lt key; omega)))
  have hFlt := Lib.hid h.Flt
  have hh := Lib.hid h
  replace hno := Lib.hid hno
  replace hok := Lib.hid hok
  clear h ha
  go_enter Try.func9, Try.ntmps9
  go_wp2_with fail
  refine FD.out.mono' ?_; intro x
  go_wp2_with fail
  refine (CP.out x).mono ?_
  rintro e W2 ⟨v, rfl, own2, hB2⟩
  obtain ⟨kA, kc, rfl⟩ := own_form9 own2
  have hbw : Below w.heap.size w W2 := (more_below w x).trans (hB2.mono (more_below w x).size)
  have hge : ∀ k, (Value.slice kA key.length kc).ownBlock = some k → w.heap.size ≤ k := fun k e => Nat.le_trans (more_below w x).size (own_ge own2 k e)
  have own2' := own_lower own2 (Nat.zero_le _)
  have own2l := own_lt9 own2
  clear FD CP hB2 own2
  go_wp2_with fail
  refine calls_at (R := fun W => Below w.heap.size w W ∧ Blk W W2.heap.size #[.slice kA key.length kc, .slice none 0 0] 66 ∧ W.ownsRow 0 32 4 (.slice kA key.length kc) key.length (cellsOf key)) ?_ ?_
  · have hb : Below W2.heap.size W2 (W2.alloc (.cells #[.slice kA key.length kc, .slice none 0 0] 66)) := (by repeat (first | (with_reducible exact Below.refl _ _) | (with_reducible refine Below.drew ?_) | (with_reducible refine Below.alloc ?_ (by simp [more_size]; try omega) _) | (with_reducible refine Below.setCell ?_ (by simp [more_size]; try omega) _) | (with_reducible refine below_more ?_ _ (by simp [more_size]; try omega))))
    exact ⟨hbw.trans (hb.mono hbw.size), Blk.new _ _ _ rfl, own_same own2' (fun k e => hb.block k (own2l k e))⟩
  rintro W3 ⟨hb3, hc3, ho3⟩
  refine (HG.out W3 hb3).mono' ?_; intro y
  have hb4 := hb3.trans ((more_below W3 y).mono hb3.size)
  have hc4 := hc3.more y
  have ho4 := own_same ho3 (fun k e => (more_below W3 y).block k (own_lt9 ho3 k e))
  have hcw : w.heap.size ≤ W2.heap.size := hbw.size
  generalize more W3 y = W4 at *
  clear hb3 hc3 ho3 hbw own2' own2l HG
  have h4 := hh.out.below hb4
  obtain ⟨v0, e0, own0, f0⟩ := h4.rows (hashV key) (hashV_lt key)
  have LKF := Lib.hid (show ∀ V, Below W4.heap.size W4 V → (Instr.lookup 59 (.map (some M)) (.int .u64 (hashV key : Nat)) false).run Try.prog V = .ok v0 V from fun V hV => by
    obtain ⟨v2, q1, q2⟩ := look_run (h4.below hV) (hashV_lt key)
    have : v2 = v0 := by unfold atH at e0 q2; rw [e0] at q2; injection q2 with q2; exact q2.symm
    rw [this] at q1; exact q1)
  have hmlen : (ofH C (hashV key)).length ≤ 1000 := Nat.le_trans (List.length_filter_le _ _) hCl
  have c1 : W4.cell? ⟨p, 1, none⟩ = some (.map (some M)) := h4.box.cell 1
  have own0F := Lib.hid (show ∀ V, Below W4.heap.size W4 V → V.ownsRow 0 62 1 v0 (ofH C (hashV key)).length ((ofH C (hashV key)).map chnP) from fun V hV => own_below own0 hV)
  have mapF := Lib.hid (show ∀ V W6, Below W4.heap.size W4 V → V.grownBy W6 v0.ownBlock → W6.ownsMap Try.prog 26 heldE M (size D) D from fun V W6 hV hg => map_same h4.mp (by
    have hM := h4.mp.lt
    refine (hg.block M (Nat.lt_of_lt_of_le hM hV.size) (fun e => ?_)).trans (hV.block M hM)
    obtain ⟨cs, f, q⟩ := own_tag own0 e.symm
    exact map_tag h4.mp q rfl))
  have PF := Lib.hid (show ∀ V W6, Below W4.heap.size W4 V → V.grownBy W6 v0.ownBlock → W6.cell? ⟨p, 1, none⟩ = some (.map (some M)) from fun V W6 hV hg => by
    have hp := h4.box.lt
    have e : W6.heap[p]? = W4.heap[p]? := (hg.block p (Nat.lt_of_lt_of_le hp hV.size) (fun e => by
      obtain ⟨cs, f, q⟩ := own_tag own0 e.symm
      exact tag_ne q h4.box (by decide) rfl)).trans (hV.block p hp)
    exact (World.cell?_of_block (w := W4) (a := ⟨p, 1, none⟩) e).trans (h4.box.cell 1))
  have FIN := Lib.hid (show ∀ (W6 W7 : World) A6 c6, W6.ownsRow 0 62 1 (.slice A6 ((ofH C (hashV key)).length + 1) c6) ((ofH C (hashV key)).length + 1) ((ofH C (hashV key)).map chnP ++ [.pointer (some ⟨W2.heap.size, 0, none⟩)]) → ((W4.alloc (.cells #[.pointer (some ⟨W2.heap.size, 0, none⟩)] 62)).drew).grownBy W6 v0.ownBlock → ((Value.slice A6 ((ofH C (hashV key)).length + 1) c6).ownBlock = v0.ownBlock ∨ (Value.slice A6 ((ofH C (hashV key)).length + 1) c6).ownBlock = some ((W4.alloc (.cells #[.pointer (some ⟨W2.heap.size, 0, none⟩)] 62)).drew).heap.size) → W6.ownsMap Try.prog 26 heldE M (size D) D → W7.ownsMap Try.prog 26 heldE M (size D + 1) (D.put (.int .u64 (hashV key : Nat)) (.held (.slice A6 ((ofH C (hashV key)).length + 1) c6))) → W6.grownBy W7 (some M) → Hid (∃ F7 D7, HM W7 F7 p M D7 u n (C ++ [⟨W2.heap.size, kA, kc, key, none, 0, []⟩]) ∧ Chg F W4 W7 ∧ Grew w F F7) from fun W6 W7 A6 c6 own6 grow6 loc6 map6 own7 grow7 => by
    have hz : W4.heap.size ≤ ((W4.alloc (.cells #[.pointer (some ⟨W2.heap.size, 0, none⟩)] 62)).drew).heap.size := (show Below W4.heap.size W4 ((W4.alloc (.cells #[.pointer (some ⟨W2.heap.size, 0, none⟩)] 62)).drew) from (by repeat (first | (with_reducible exact Below.refl _ _) | (with_reducible refine Below.drew ?_) | (with_reducible refine Below.alloc ?_ (by simp [more_size]; try omega) _) | (with_reducible refine Below.setCell ?_ (by simp [more_size]; try omega) _) | (with_reducible refine below_more ?_ _ (by simp [more_size]; try omega))))).size
    have hbb : Below W4.heap.size W4 ((W4.alloc (.cells #[.pointer (some ⟨W2.heap.size, 0, none⟩)] 62)).drew) := (by repeat (first | (with_reducible exact Below.refl _ _) | (with_reducible refine Below.drew ?_) | (with_reducible refine Below.alloc ?_ (by simp [more_size]; try omega) _) | (with_reducible refine Below.setCell ?_ (by simp [more_size]; try omega) _) | (with_reducible refine below_more ?_ _ (by simp [more_size]; try omega))))
    have h7 := h4.add (b0 := w.heap.size) (W6 := W6) (W7 := W7) hFlt.out hb4.size ⟨W2.heap.size, kA, kc, key, none, 0, []⟩ hc4 hcw rfl rfl rfl lk hok.out (by
      obtain ⟨A9, c9, e9, _, _, _, hv9⟩ := own_vals ho4
      injection e9 with e9
      subst e9
      exact hv9) (fun x e => by
        have e : kA = some x := e
        exact ⟨hge x.block (by subst e; rfl), own_lt9 ho4 x.block (by subst e; rfl)⟩) (fun x e => by
        have e : kA = some x := e
        exact own_blk9 ho4 (by subst e; rfl)) (own_nil9 ho4) hno.out e0 own6 (fun k hk hne => (grow6.block k (by omega) (fun e => hne e.symm)).trans (hbb.block k hk)) (Nat.le_trans hz grow6.size) (loc6.imp (fun q => q) (fun q => ⟨_, q, hz⟩)) (size_readV own7) map6 (fun k hk hne => grow7.block k hk (fun e => hne (by injection e))) grow7.size
    exact Lib.hid ⟨_, _, h7, ((Chg.of_below hbb).then (Chg.of_grown grow6 (fun g hg => f0 g hg))).then (Chg.of_grown grow7 (fun g hg => by injection hg with hg; subst hg; exact h4.mF)), fun k hk => .inl hk, fun k hk => hk.imp (fun q => q) (fun q => q.1)⟩)
  have hsz : size D ≤ 1000 := by have := h4.size_le; omega
  have hl4 : p < W4.heap.size := h4.box.lt
  replace hh := Lib.hid h4
  replace e0 := Lib.hid e0
  replace own0 := Lib.hid own0
  replace f0 := Lib.hid f0
  replace hb4 := Lib.hid hb4
  replace hc4 := Lib.hid hc4
  replace ho4 := Lib.hid ho4
  clear h4
  have LK1 := LKF.out W4.drew (by repeat (first | (with_reducible exact Below.refl _ _) | (with_reducible refine Below.drew ?_) | (with_reducible refine Below.alloc ?_ (by simp [more_size]; try omega) _) | (with_reducible refine Below.setCell ?_ (by simp [more_size]; try omega) _) | (with_reducible refine below_more ?_ _ (by simp [more_size]; try omega))))
  have LK2 := LKF.out (W4.drew.alloc (.cells #[.pointer (some ⟨W2.heap.size, 0, none⟩)] 62)) (by repeat (first | (with_reducible exact Below.refl _ _) | (with_reducible refine Below.drew ?_) | (with_reducible refine Below.alloc ?_ (by simp [more_size]; try omega) _) | (with_reducible refine Below.setCell ?_ (by simp [more_size]; try omega) _) | (with_reducible refine below_more ?_ _ (by simp [more_size]; try omega))))
  have LK3 := LKF.out ((W4.alloc (.cells #[.pointer (some ⟨W2.heap.size, 0, none⟩)] 62)).drew) (by repeat (first | (with_reducible exact Below.refl _ _) | (with_reducible refine Below.drew ?_) | (with_reducible refine Below.alloc ?_ (by simp [more_size]; try omega) _) | (with_reducible refine Below.setCell ?_ (by simp [more_size]; try omega) _) | (with_reducible refine below_more ?_ _ (by simp [more_size]; try omega))))
  clear LKF
  go_upto_region 9 with fail
  go_region_law (first
      | (refine step_append_row (by rfl) (.tmp 53) (.tmp 55) 68 (by rfl) 0 62 i0 _ 1 8 Try.underlying68 hi hz0 hz1 hz2 (by rfl) (by decide) v0 (ofH C (hashV key)).length ((ofH C (hashV key)).map chnP) (by rfl) (own0F.out _ (by repeat (first | (with_reducible exact Below.refl _ _) | (with_reducible refine Below.drew ?_) | (with_reducible refine Below.alloc ?_ (by simp [more_size]; try omega) _) | (with_reducible refine Below.setCell ?_ (by simp [more_size]; try omega) _) | (with_reducible refine below_more ?_ _ (by simp [more_size]; try omega))))) (some ⟨W4.heap.size, 0, none⟩) 1 1 [.pointer (some ⟨W2.heap.size, 0, none⟩)] (by rfl) (fun e => by cases e) rfl (fun ad e j u hu => by cases e; exact cells_at W4 [.pointer (some ⟨W2.heap.size, 0, none⟩)] _ rfl j u hu) (fun u hu => by simp at hu; subst hu; rfl) (by unfold maxLen; omega) (by omega) (Nat.zero_le _) ?_; intro A6 c6 W6 own6 grow6 loc6; have map6 := mapF.out _ _ (by repeat (first | (with_reducible exact Below.refl _ _) | (with_reducible refine Below.drew ?_) | (with_reducible refine Below.alloc ?_ (by simp [more_size]; try omega) _) | (with_reducible refine Below.setCell ?_ (by simp [more_size]; try omega) _) | (with_reducible refine below_more ?_ _ (by simp [more_size]; try omega)))) grow6; have d1 := PF.out _ _ (by repeat (first | (with_reducible exact Below.refl _ _) | (with_reducible refine Below.drew ?_) | (with_reducible refine Below.alloc ?_ (by simp [more_size]; try omega) _) | (with_reducible refine Below.setCell ?_ (by simp [more_size]; try omega) _) | (with_reducible refine below_more ?_ _ (by simp [more_size]; try omega)))) grow6; obtain ⟨W7, hrun7, own7, grow7⟩ := map6.update (t := 59) (e := 68) keyU Try.underlying59 (by unfold maxLen; omega) hkey.out (val := .slice A6 ((ofH C (hashV key)).length + 1) c6) rfl))
  all_goals
    have hR := FIN.out _ _ _ _ own6 grow6 loc6 map6 own7 grow7
    clear own6 grow6 loc6 map6 own7 grow7 hrun7 d1
    obtain ⟨F7, D7, h7, hC7, hG7⟩ := hR.out
    have hc := h7.each _ (List.mem_append.2 (.inr (List.mem_singleton.2 rfl)))
    have b1 : W7.cell? ⟨W2.heap.size, 1, none⟩ = some (.slice none 0 0) := hc.box.cell 1
    have hcl : W2.heap.size < W7.heap.size := hc.box.lt
    have hpl7 : p < W7.heap.size := h7.box.lt
    replace h7 := Lib.hid h7
    replace hC7 := Lib.hid hC7
    replace hG7 := Lib.hid hG7
    clear hR hc FIN own0F mapF PF LK1 LK2 LK3 c1 hl4 e0 own0 f0 hc4 ho4
    go_wp2_with fail
    refine (bs_nil id _).mono ?_; rintro e w' ⟨rfl, rfl⟩
    go_wp2_with fail
    refine (sins_nil id W7.heap.size _ ((Blk.new W7 #[.int .i64 id] 2 rfl).cell 0)).mono ?_
    rintro e W8 ⟨v8, rfl, own8, hB8⟩
    obtain ⟨iA, ic, rfl⟩ := own_form9 own8
    have hb7 : Below W7.heap.size W7 (W7.alloc (.cells #[.int .i64 id] 2)) := (by repeat (first | (with_reducible exact Below.refl _ _) | (with_reducible refine Below.drew ?_) | (with_reducible refine Below.alloc ?_ (by simp [more_size]; try omega) _) | (with_reducible refine Below.setCell ?_ (by simp [more_size]; try omega) _) | (with_reducible refine below_more ?_ _ (by simp [more_size]; try omega))))
    have hb8 := hb7.trans (hB8.mono hb7.size)
    have hc8 := h7.out.each _ (List.mem_append.2 (.inr (List.mem_singleton.2 rfl)))
    have bx8 : Blk W8 W2.heap.size #[.slice kA key.length kc, .slice none 0 0] 66 := hc8.box.below hb8 hcl
    have a1 : W8.cell? ⟨W2.heap.size, 1, none⟩ = some (.slice none 0 0) := bx8.cell 1
    have a2 := bx8.free 1
    have h9 := HM.ids_set (c := ⟨W2.heap.size, kA, kc, key, none, 0, []⟩) (F' := fun k => F7 k ∨ (W7.heap.size ≤ k ∧ k < W8.heap.size)) (ids := [id]) h7.out hb8.size (fun k hk => hb8.block k (h7.out.Flt k hk)) (own_lower own8 hb7.size) (fun k => Iff.rfl)
    have d2 : (W8.setCell ⟨W2.heap.size, 1, none⟩ (.slice iA 1 ic)).cell? ⟨p, 2, none⟩ = some (.int .i64 n) := h9.box.cell 2
    have d3 : (W8.setCell ⟨W2.heap.size, 1, none⟩ (.slice iA 1 ic)).frozen? ⟨p, 2, none⟩ = false := h9.box.free 2
    have h10 := Lib.hid (h9.count (n + 1))
    have hCh : Hid (Chg F w ((W8.setCell ⟨W2.heap.size, 1, none⟩ (.slice iA 1 ic)).setCell ⟨p, 2, none⟩ (.int .i64 (n + 1)))) := Lib.hid (by
      have c1 : Chg (fun k => F k ∨ w.heap.size ≤ k) w ((W8.setCell ⟨W2.heap.size, 1, none⟩ (.slice iA 1 ic)).setCell ⟨p, 2, none⟩ (.int .i64 (n + 1))) :=
        ((((Chg.of_below hb4.out).then (hC7.out.mono (fun k hk => .inl hk))).then (Chg.of_below hb8)).then (Chg.set ⟨W2.heap.size, 1, none⟩ _ (.inr hcw))).then (Chg.set ⟨p, 2, none⟩ _ (.inl hh.out.pF))
      exact ⟨c1.os, c1.tape, c1.output, c1.size, fun k hk hn => c1.block k hk (fun q => q.elim hn (fun r => by omega))⟩)
    have hGr : Hid (Grew w F (fun k => F7 k ∨ (W7.heap.size ≤ k ∧ k < W8.heap.size))) := Lib.hid ⟨fun k hk => .inl (hG7.out.1 k hk), fun k hk => hk.elim (hG7.out.2 k) (fun q => .inr (by have h1 := hb4.out.size; have h2 := hC7.out.size; omega))⟩
    have hw1 : wrap64 (n + 1) = n + 1 := by unfold wrap64; omega
    have hw2 : IntKind.i64.wrap (n + 1) = n + 1 := IntWalk.i64_in _ (by omega)
    clear own8 hB8 hb7 hb8 hc8 bx8 h9 h7 hC7 hG7 hb4 hh
    go_wp2
    go_ret
    exact ⟨rfl, ⟨W2.heap.size, kA, kc, key, iA, ic, [id]⟩, _, D7, rfl, rfl, h10.out, hCh.out, hGr.out⟩
end
end Go.Proofs.Ytijegkiapbmekaa
