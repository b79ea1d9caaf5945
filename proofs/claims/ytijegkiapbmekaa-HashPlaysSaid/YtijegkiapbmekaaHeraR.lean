/- Package hashidx: Erase: a chain goes out of its row, an empty row out of the map. -/
import Derived.Test.YtijegkiapbmekaaHmod
import Derived.Test.YtijegkiapbmekaaHdel
set_option maxRecDepth 100000
set_option linter.unusedVariables false
set_option linter.unusedSimpArgs false
namespace Go.Proofs.Ytijegkiapbmekaa
open Go.RowKit
open Go.Maps (has size Keyed int_keyed keyOf_int_mk)
section
variable {w w' : World} {F Y : Nat → Prop} {p M : Nat} {D : DataW Value} {u : Bool} {n : Int} {C : List Chn} {key : List Val}
theorem keyL9 (x : Nat) : WideAt.IsKeyLit (.int .u64 (x : Nat)) := trivial
theorem era_row {V : World} (h : HM V F p M D u n C) (hCl : C.length ≤ 1000) {c : Chn} (hc : c ∈ C) {bq : Nat} (hbq : Blk V bq #[chnP c] 62) (nbq : ¬ F bq) :
    ∃ v0, (∀ W, Below V.heap.size V W → (Instr.lookup 59 (.map (some M)) (.int .u64 (hashV c.key : Nat)) false).run Try.prog W = .ok v0 W) ∧
      Calls Try.prog 33 #[v0, .func (.func 34) #[] #[.pointer (some ⟨bq, 0, none⟩)]] V.drew fun e w9 => ∃ A9 n9 c9 W10, e = .returned (.slice A9 n9 c9) ∧ w9.cell? ⟨p, 1, none⟩ = some (.map (some M)) ∧ p < w9.heap.size ∧
        (Instr.mapUpdate 59 (.map (some M)) (.int .u64 (hashV c.key : Nat)) (.slice A9 n9 c9)).run Try.prog w9 = .ok () W10 ∧ W10.cell? ⟨p, 1, none⟩ = some (.map (some M)) ∧ p < W10.heap.size ∧
        (Instr.lookup 59 (.map (some M)) (.int .u64 (hashV c.key : Nat)) false).run Try.prog W10 = .ok (.slice A9 n9 c9) W10 ∧
        Hid (∃ D9, W10.ownsMap Try.prog 26 heldE M (size D9) D9 ∧ Chg F V W10 ∧ (n9 ≠ 0 → HM W10 F p M D9 u n (C.filter (fun a => !(a.b == c.b)))) ∧ (n9 = 0 → ∀ W11, W11.ownsMap Try.prog 26 heldE M (size D9) (D9.del (.int .u64 (hashV c.key : Nat))) → W10.mapTurned W11 M → HM W11 F p M (D9.del (.int .u64 (hashV c.key : Nat))) u n (C.filter (fun a => !(a.b == c.b))) ∧ Chg F V W11)) := by
  have hlt := hashV_lt c.key
  obtain ⟨v0, e0, own0, f0⟩ := h.rows (hashV c.key) hlt
  have hcm : c ∈ ofH C (hashV c.key) := List.mem_filter.2 ⟨hc, by simp⟩
  have hle : (ofH C (hashV c.key)).length ≤ C.length := List.length_filter_le _ _
  have hkey : keyOf Try.prog 26 (.int .u64 (hashV c.key : Nat)) = some (.int .u64 (hashV c.key : Nat)) := keyOf_int_mk Try.underlying26 (WalkArith.wf_u64 (by omega))
  have hIs : Maps.IsMap D := h.mp.isMap
  have hgone := ofH_gone C c.b (hashV c.key)
  have G := fun {w' : World} {D' : DataW Value} {vn : Value} => HM.gone (w' := w') (D' := D') (vn := vn) h hc e0
  have Ld := fun (W : World) (hW : Below V.heap.size V W) => look_run (h.below hW) hlt
  refine ⟨v0, fun W hW => ?_, ?_⟩
  · obtain ⟨v2, q1, q2⟩ := Ld W hW
    have : v2 = v0 := by unfold atH at e0 q2; rw [e0] at q2; injection q2 with q2; exact q2.symm
    rw [this] at q1; exact q1
  obtain ⟨b0, cp, rfl⟩ := own_some9 own0 (List.length_pos_of_mem hcm)
  have hb0F : F b0 := f0 b0 rfl
  obtain ⟨cs0, f0', tag0⟩ := own_tag own0 (k := b0) rfl
  have npb : p ≠ b0 := tag_ne h.box tag0 (by decide)
  have nMb : M ≠ b0 := fun e => map_tag h.mp tag0 e.symm
  have npM : p ≠ M := map_tag h.mp h.box
  generalize hhk : hashV c.key = hk at *
  generalize hL : ofH C hk = L at *
  refine (del_chns L b0 cp bq c.b V.drew (by omega) own0 hbq (fun e => nbq (e ▸ hb0F)) (fun a ha => ⟨_, (h.each a (by rw [← hL] at ha; exact (List.mem_filter.1 ha).1)).box⟩) ⟨_, (h.each c hc).box⟩ (fun k cs hk => tag_ne (show V.heap[k]? = _ from hk) tag0 (by decide))).mono ?_
  rintro e w9 ⟨rfl, own9, grow9⟩
  have hM9 : w9.heap[M]? = V.heap[M]? := grow9.block M h.mp.lt (fun e => nMb (by injection e))
  have map9 := map_same h.mp hM9
  have hszD := h.size_le
  obtain ⟨W10, hrun, own10, grow10⟩ := map9.update (t := 59) (e := 68) keyU Try.underlying59 (by unfold maxLen; omega) hkey (val := .slice (some ⟨b0, 0, none⟩) (L.filter (fun c' => !(c'.b == c.b))).length cp) rfl
  have hp9 : Blk w9 p #[.bool u, .map (some M), .int .i64 n] 61 := (grow9.block p h.box.lt (fun e => npb (by injection e))).trans h.box
  have hp10 : Blk W10 p #[.bool u, .map (some M), .int .i64 n] 61 := (grow10.block p hp9.lt (fun e => npM (by injection e))).trans hp9
  have hz9 : V.heap.size ≤ w9.heap.size := grow9.size
  have hz10 : V.heap.size ≤ W10.heap.size := Nat.le_trans hz9 grow10.size
  have hk10 : ∀ k, k < V.heap.size → (Value.slice (some ⟨b0, 0, none⟩) L.length cp).ownBlock ≠ some k → k ≠ M → W10.heap[k]? = V.heap[k]? := fun k h1 h2 h3 =>
    (grow10.block k (Nat.lt_of_lt_of_le h1 hz9) (fun e => h3 (by injection e))).trans (grow9.block k h1 (fun e => h2 e.symm))
  have C10 : Chg F V W10 := ((Chg.of_below (by repeat (first | (with_reducible exact Below.refl _ _) | (with_reducible refine Below.drew ?_) | (with_reducible refine Below.alloc ?_ (by simp [more_size]; try omega) _) | (with_reducible refine Below.setCell ?_ (by simp [more_size]; try omega) _) | (with_reducible refine below_more ?_ _ (by simp [more_size]; try omega))))).then (Chg.of_grown grow9 (fun g e => by injection e with e; rw [← e]; exact hb0F))).then (Chg.of_grown grow10 (fun g e => by injection e with e; rw [← e]; exact h.mF))
  have own10s := size_readV own10
  refine ⟨_, _, cp, W10, rfl, hp9.cell 1, hp9.lt, hrun, hp10.cell 1, hp10.lt, ?_, Lib.hid ⟨_, own10s, C10, fun hn9 => ?_, fun hn9 W11 own11 turn11 => ?_⟩⟩
  · obtain ⟨v2, ps, hr2, hv2⟩ := own10.lookup keyU Try.underlying59 (z := .slice none 0 0) (by first | rfl | kernel_rfl) rfl hkey
    rw [Go.Maps.atKey_put_same hIs (keyL9 hk)] at hv2
    simp [heldE] at hv2
    rw [hv2.1] at hr2
    exact hr2
  · refine G hz10 hk10 own10s (vn := .slice (some ⟨b0, 0, none⟩) (L.filter (fun c' => !(c'.b == c.b))).length cp) ?_ (fun k e => e) (fun x v hx => atH_put hIs _ v hlt hx) (fun kl hq => ?_)
    · rw [hgone]
      exact own_same own9 (fun k e => grow10.block k (own_lt9 own9 k e) (fun e2 => nMb (by have e3 : b0 = k := (by injection e); injection e2 with e2; omega)))
    · by_cases e : kl = .int .u64 ((hk : Nat) : Int)
      · refine .inl ⟨e, fun q => hn9 ?_⟩
        rw [hgone] at q
        rw [q]; rfl
      · rw [Go.Maps.has_put_other e] at hq
        exact .inr ⟨e, hq⟩
  · have grow11 := turn11.grown
    have hz11 : V.heap.size ≤ W11.heap.size := Nat.le_trans hz10 grow11.size
    have hnil : L.filter (fun c' => !(c'.b == c.b)) = [] := List.eq_nil_of_length_eq_zero hn9
    refine ⟨G hz11 (fun k h1 h2 h3 => (grow11.block k (Nat.lt_of_lt_of_le h1 hz10) (fun e => h3 (by injection e))).trans (hk10 k h1 h2 h3)) (size_readV own11) (vn := .slice none 0 0) ?_ (fun k e => by cases e) (fun x v hx => ?_) (fun kl hq => ?_), C10.then (Chg.of_grown grow11 (fun g e => by injection e with e; rw [← e]; exact h.mF))⟩
    · rw [hgone, hnil]; exact World.ownsRow_nil _ _ _ _
    · by_cases e : x = hk
      · subst e
        unfold atH
        rw [Go.Maps.atKey_del_same]
        constructor
        · intro q; injection q with q; exact .inl ⟨rfl, q.symm⟩
        · rintro (⟨_, q⟩ | ⟨q, _⟩)
          · rw [q]
          · exact absurd rfl q
      · have hne : (Lit.int .u64 ((x : Nat) : Int)) ≠ .int .u64 ((hk : Nat) : Int) := fun q => e (by injection q with _ q; omega)
        unfold atH
        rw [Go.Maps.atKey_del_other hne, Go.Maps.atKey_put_other hne]
        constructor
        · intro q; exact .inr ⟨e, q⟩
        · rintro (⟨q, _⟩ | ⟨_, q⟩)
          · exact absurd q e
          · exact q
    · by_cases e : kl = .int .u64 ((hk : Nat) : Int)
      · subst e; rw [Go.Maps.has_del_same] at hq; cases hq
      · rw [Go.Maps.has_del_other e, Go.Maps.has_put_other e] at hq
        exact .inr ⟨e, hq⟩
end
end Go.Proofs.Ytijegkiapbmekaa
