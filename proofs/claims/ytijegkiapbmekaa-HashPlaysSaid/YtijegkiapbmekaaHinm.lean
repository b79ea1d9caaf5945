/- Package hashidx: Insert where the key has a chain. -/
import Derived.Test.YtijegkiapbmekaaHmod
import Derived.Test.YtijegkiapbmekaaHbs
import Derived.Test.YtijegkiapbmekaaHsins
import Derived.Test.YtijegkiapbmekaaHnew
set_option maxRecDepth 100000
set_option linter.unusedVariables false
set_option linter.unusedSimpArgs false
namespace Go.Proofs.Ytijegkiapbmekaa
open Go.RowKit
open Go.Maps (has size Keyed int_keyed keyOf_int_mk)
attribute [local go_sem] run_frombits run_tobits more_more more_drew more_drewN more_size more_cell more_frozen run_store_float lt_c1 le_c1 lt_s1 le_s1 lt_c2 le_c2 lt_s2 le_s2 lt_c3 le_c3 lt_s3 le_s3 lt_c4 le_c4 lt_s4 le_s4 lt_c5 le_c5 lt_s5 le_s5 lt_c6 le_c6 lt_s6 le_s6 lt_c7 le_c7 lt_s7 le_s7 lt_c8 le_c8 lt_s8 le_s8 lt_c9 le_c9 lt_s9 le_s9 lt_c10 le_c10 lt_s10 le_s10 lt_c11 le_c11 lt_s11 le_s11 lt_c12 le_c12 lt_s12 le_s12 le_c0
section
variable {w w' : World} {F Y : Nat → Prop} {p M : Nat} {D : DataW Value} {u : Bool} {n : Int} {C : List Chn} {key : List Val}
set_option maxHeartbeats 4000000 in
theorem hins_more (h : HM w F p M D false n C) (A : Option Addr) (ca : Nat) (hok : allOk key) (lk : key.length ≤ 1000) (ha : ValsIn w A key) {c : Chn} (hc : c ∈ C) (hk : c.key = key) (hl : c.ids.length ≤ 1000) (srt : c.ids.Pairwise (· < ·)) (id : Int) (hid : id ∉ c.ids) (hn : 0 ≤ n ∧ n ≤ 1000) :
    Calls Try.prog 9 #[.pointer (some ⟨p, 0, none⟩), .slice A key.length ca, .int .i64 id] w fun e w' => e = .returned (.int .i64 0) ∧ ∃ iA ic i F', Place c.ids id i ∧ HM w' F' p M D false (n + 1) (C.map (updC c.b iA ic (insAt c.ids i id))) ∧ Chg F w w' ∧ Grew w F F' := by
  have FD := Lib.hid (find_any h A ca hok lk ha)
  rw [fnd_yes h hc hk] at FD
  have hC := h.each c hc
  have c1 : ∀ x, (more w x).cell? ⟨c.b, 1, none⟩ = some (idsS c) := fun x => (more_cell w x _ hC.box.lt).trans (hC.box.cell 1)
  have c2 : ∀ x, (more w x).cell? ⟨p, 0, none⟩ = some (.bool false) := fun x => (more_cell w x _ h.box.lt).trans (h.box.cell 0)
  have CT := Lib.hid (fun x => contains_any c.iA c.ic c.ids id (more w x) (by omega) (hC.row.1.more x))
  rw [decide_eq_false hid] at CT
  have BS := Lib.hid (fun x => bs_any c.iA c.ic c.ids id (more w x) (by omega) (hC.row.1.more x) srt)
  have SI := Lib.hid (show ∀ x i, i ≤ c.ids.length → Calls Try.prog 29 #[.slice c.iA c.ids.length c.ic, .int .i64 (i : Nat), .slice (some ⟨w.heap.size + x.objs.size, 0, none⟩) 1 1] ((more w x).alloc (.cells #[.int .i64 id] 2)) fun e w' => ∃ iA ic, e = .returned (.slice iA (insAt c.ids i id).length ic) ∧
      Hid (∃ F', HM (w'.setCell ⟨c.b, 1, none⟩ (.slice iA (insAt c.ids i id).length ic)) F' p M D false n (C.map (updC c.b iA ic (insAt c.ids i id))) ∧ Chg F w (w'.setCell ⟨c.b, 1, none⟩ (.slice iA (insAt c.ids i id).length ic)) ∧ Grew w F F') ∧ w'.cell? ⟨c.b, 1, none⟩ = some (idsS c) ∧ w'.frozen? ⟨c.b, 1, none⟩ = false ∧ c.b < w'.heap.size from fun x i hi => by
    rw [← more_size w x]
    have hb1 : Below w.heap.size w ((more w x).alloc (.cells #[.int .i64 id] 2)) := (by repeat (first | (with_reducible exact Below.refl _ _) | (with_reducible refine Below.drew ?_) | (with_reducible refine Below.alloc ?_ (by simp [more_size]; try omega) _) | (with_reducible refine Below.setCell ?_ (by simp [more_size]; try omega) _) | (with_reducible refine below_more ?_ _ (by simp [more_size]; try omega))))
    have h1 := h.below hb1
    have hC1 := h1.each c hc
    have hgl : (more w x).heap.size < ((more w x).alloc (.cells #[.int .i64 id] 2)).heap.size := by simp
    have hwx : w.heap.size ≤ (more w x).heap.size := (more_below w x).size
    refine (sins_any c.ids c.iA c.ic i (more w x).heap.size id _ hC1.ids hi hl (Blk.new _ _ _ rfl) (fun e => by
      have := h.Flt _ (hC.iF _ e); omega)).mono ?_
    rintro e w3 ⟨v, rfl, own3, grow3, loc3⟩
    obtain ⟨iA, ic, rfl⟩ := own_form9 own3
    have nb : some c.b ≠ (idsS c).ownBlock := fun e => by
      obtain ⟨cs2, f2, q⟩ := own_tag hC1.ids e.symm
      exact tag_ne q hC1.box (by decide) rfl
    have hbx : Blk w3 c.b #[.slice c.kA c.key.length c.kc, idsS c] 66 := (grow3.block c.b hC1.box.lt nb).trans hC1.box
    have h4 := h1.ids_mid hc grow3.size (fun k hk hne => grow3.block k hk (fun e => hne e.symm)) own3 (loc3.imp (fun q => q) (fun q => ⟨_, q, Nat.le_refl _⟩))
    refine ⟨iA, ic, rfl, Lib.hid ⟨_, h4, ?_, fun k hk => .inl hk, fun k hk => hk.imp (fun q => q) (fun q => Nat.le_trans hb1.size q.1)⟩, hbx.cell 1, hbx.free 1, hbx.lt⟩
    exact ((Chg.of_below hb1).then (Chg.of_grown grow3 (fun g e => hC.iF g e))).then (Chg.set ⟨c.b, 1, none⟩ _ hC.bF))
  have hpF := h.pF
  have hw1 : wrap64 (n + 1) = n + 1 := by unfold wrap64; omega
  have hw2 : IntKind.i64.wrap (n + 1) = n + 1 := IntWalk.i64_in _ (by omega)
  clear h hC ha hok hid srt
  go_enter Try.func9, Try.ntmps9
  go_wp2_with fail
  refine FD.out.mono' ?_; intro x
  go_wp2_with fail
  refine (CT.out x).mono ?_; rintro e w' ⟨rfl, rfl⟩
  go_wp2_with fail
  refine (BS.out x).mono ?_; rintro e w' ⟨i, b, rfl, hpl, rfl⟩
  have SI2 := Lib.hid (SI.out x i hpl.out.le)
  go_wp2_with fail
  refine SI2.out.mono ?_
  rintro e w3 ⟨iA, ic, rfl, hF, a1, a2, a3⟩
  obtain ⟨F', h4, hCh, hGr⟩ := hF.out
  have d1 : (w3.setCell ⟨c.b, 1, none⟩ (.slice iA (insAt c.ids i id).length ic)).cell? ⟨p, 2, none⟩ = some (.int .i64 n) := h4.box.cell 2
  have d2 : (w3.setCell ⟨c.b, 1, none⟩ (.slice iA (insAt c.ids i id).length ic)).frozen? ⟨p, 2, none⟩ = false := h4.box.free 2
  have h5 := Lib.hid (h4.count (n + 1))
  have hC5 := Lib.hid (hCh.then (Chg.set ⟨p, 2, none⟩ (.int .i64 (n + 1)) hpF))
  replace hGr := Lib.hid hGr
  clear FD CT BS SI SI2 hF h4 hCh c1 c2
  go_wp2
  go_ret
  exact ⟨rfl, iA, ic, i, F', hpl.out, h5.out, hC5.out, hGr.out⟩
end
end Go.Proofs.Ytijegkiapbmekaa
