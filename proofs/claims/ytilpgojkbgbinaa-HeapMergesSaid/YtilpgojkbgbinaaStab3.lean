/- The order of items of Items. -/
import Derived.Test.YtilpgojkbgbinaaPileT3
import Derived.Test.YtilpgojkbgbinaaStab
import Derived.StillTailTactics
import Derived.Deep.RegionHeld3
set_option maxRecDepth 100000
set_option linter.unusedVariables false
set_option linter.unusedSimpArgs false
namespace Go.Proofs.Ytilpgojkbgbinaa
open Go.RowKit
attribute [local go_sem] run_frombits run_tobits more_more more_drew more_drewN more_size more_cell more_frozen run_store_float lt_c1 le_c1 lt_s1 le_s1 lt_c2 le_c2 lt_s2 le_s2 lt_c3 le_c3 lt_s3 le_s3 lt_c4 le_c4 lt_s4 le_s4 lt_c5 le_c5 lt_s5 le_s5 lt_c6 le_c6 lt_s6 le_s6 lt_c7 le_c7 lt_s7 le_s7 lt_c8 le_c8 lt_s8 le_s8 lt_c9 le_c9 lt_s9 le_s9 lt_c10 le_c10 lt_s10 le_s10 lt_c11 le_c11 lt_s11 le_s11 lt_c12 le_c12 lt_s12 le_s12 le_c0
abbrev valItm (x : Itm) : Value := .agg #[.int .i64 x.n, .int .i64 x.id]
set_option maxHeartbeats 4000000 in
theorem stab_It3 {lt : Itm → Itm → Bool} {fid : FuncId} {caps : Array Value} {b : Nat} {bt : TypeId} (hT : Tells valItm lt fid caps []) (w : World) (x y : It Itm) (hb : Blk w b #[.func (.func fid) #[] caps] bt) :
    Gives Try.prog 112 (#[valIt3 x, valIt3 y] ++ #[.pointer (some ⟨b, 0, none⟩)]) w (.bool (ltS lt x y)) := by
  obtain ⟨⟨xn, xi⟩, xl, xa⟩ := x
  obtain ⟨⟨yn, yi⟩, yl, ya⟩ := y
  have C0 : ∀ o o', ((w.alloc o).alloc o').cell? ⟨b, 0, none⟩ = some (.func (.func fid) #[] caps) := fun o o' => by rw [alloc_is, alloc_is, more_more]; exact (hb.more _).cell 0
  have C1 : ∀ o o' z, (more ((w.alloc o).alloc o') z).cell? ⟨b, 0, none⟩ = some (.func (.func fid) #[] caps) := fun o o' z => by rw [alloc_is, alloc_is, more_more, more_more]; exact (hb.more _).cell 0
  have hbl := hb.lt
  have J1 := Lib.hid (fun W => hT.2 W ⟨xn, xi⟩ ⟨yn, yi⟩ (fun b o hm => by simp at hm))
  have J2 := Lib.hid (fun W => hT.2 W ⟨yn, yi⟩ ⟨xn, xi⟩ (fun b o hm => by simp at hm))
  have E := hT.1
  clear hb hT
  unfold ltS
  dsimp only
  generalize lt ⟨xn, xi⟩ ⟨yn, yi⟩ = r1 at *
  generalize lt ⟨yn, yi⟩ ⟨xn, xi⟩ = r2 at *
  show Gives Try.prog 112 #[.agg #[.int .i64 xn, .int .i64 xi, .int .i64 xl, .int .i64 xa], .agg #[.int .i64 yn, .int .i64 yi, .int .i64 yl, .int .i64 ya], .pointer (some ⟨b, 0, none⟩)] w _
  go_enter Try.func112, Try.ntmps112
  go_wp2_with fail
  have HR := fun z1 => Lib.hid (show Blk (more ((w.alloc (.cells #[.int .i64 xn, .int .i64 xi, .int .i64 xl, .int .i64 xa] 155)).alloc (.cells #[.int .i64 yn, .int .i64 yi, .int .i64 yl, .int .i64 ya] 155)) z1) w.heap.size #[.int .i64 xn, .int .i64 xi, .int .i64 xl, .int .i64 xa] 155 ∧ Blk (more ((w.alloc (.cells #[.int .i64 xn, .int .i64 xi, .int .i64 xl, .int .i64 xa] 155)).alloc (.cells #[.int .i64 yn, .int .i64 yi, .int .i64 yl, .int .i64 ya] 155)) z1) (w.heap.size + 1) #[.int .i64 yn, .int .i64 yi, .int .i64 yl, .int .i64 ya] 155 from
    ⟨((Blk.new w _ _ rfl).alloc _).more _, (Blk.new (w.alloc _) _ _ (by simp)).more _⟩)
  refine (J1.out _).mono' ?_; intro z1
  cases r1
  · go_wp2_with fail
    have HS := C1 (.cells #[.int .i64 xn, .int .i64 xi, .int .i64 xl, .int .i64 xa] 155) (.cells #[.int .i64 yn, .int .i64 yi, .int .i64 yl, .int .i64 ya] 155)
    refine wp_called (R := fun W => Below w.heap.size w W ∧ (∀ z, (more W z).cell? ⟨b, 0, none⟩ = some (.func (.func fid) #[] caps)) ∧ Blk W w.heap.size #[.int .i64 xn, .int .i64 xi, .int .i64 xl, .int .i64 xa] 155 ∧ Blk W (w.heap.size + 1) #[.int .i64 yn, .int .i64 yi, .int .i64 yl, .int .i64 ya] 155) ⟨(by repeat (first | (with_reducible exact Below.refl _ _) | (with_reducible refine Below.drew ?_) | (with_reducible refine Below.alloc ?_ (by simp [more_size]; try omega) _) | (with_reducible refine Below.setCell ?_ (by simp [more_size]; try omega) _) | (with_reducible refine below_more ?_ _ (by simp [more_size]; try omega)))), fun z => by rw [more_more]; exact HS _, (HR z1).out.1, (HR z1).out.2⟩ ?_
    rintro W ⟨bW, cW, b1, b2⟩
    replace bW := Lib.hid bW
    have x0 := fun z => (b1.more z).cell 0
    have x1 := fun z => (b1.more z).cell 1
    have x2 := fun z => (b1.more z).cell 2
    have x3 := fun z => (b1.more z).cell 3
    have y0 := fun z => (b2.more z).cell 0
    have y1 := fun z => (b2.more z).cell 1
    have y2 := fun z => (b2.more z).cell 2
    have y3 := fun z => (b2.more z).cell 3
    have hW := b2.lt
    replace hW := Lib.hid (show w.heap.size ≤ W.heap.size by omega)
    clear C0 C1 HS b1 b2 HR
    cases r2
    · have KM := Lib.hid (fun z => show (more W.drew z).cell? ⟨b, 0, none⟩ = some (.func (.func fid) #[] caps) ∧ (more W.drew z).cell? ⟨w.heap.size, 0, none⟩ = some (.int .i64 xn) ∧ (more W.drew z).cell? ⟨w.heap.size, 1, none⟩ = some (.int .i64 xi) ∧ (more W.drew z).cell? ⟨w.heap.size, 2, none⟩ = some (.int .i64 xl) ∧ (more W.drew z).cell? ⟨w.heap.size, 3, none⟩ = some (.int .i64 xa) ∧ (more W.drew z).cell? ⟨w.heap.size + 1, 0, none⟩ = some (.int .i64 yn) ∧ (more W.drew z).cell? ⟨w.heap.size + 1, 1, none⟩ = some (.int .i64 yi) ∧ (more W.drew z).cell? ⟨w.heap.size + 1, 2, none⟩ = some (.int .i64 yl) ∧ (more W.drew z).cell? ⟨w.heap.size + 1, 3, none⟩ = some (.int .i64 ya) from by
        rw [drew_is, more_more]
        exact ⟨cW _, x0 _, x1 _, x2 _, x3 _, y0 _, y1 _, y2 _, y3 _⟩)
      have n0 : W.drew.cell? ⟨b, 0, none⟩ = some (.func (.func fid) #[] caps) := by rw [drew_is]; exact cW _
      have n1 : W.drew.cell? ⟨w.heap.size, 0, none⟩ = some (.int .i64 xn) := by rw [drew_is]; exact x0 _
      have n1' : W.drew.cell? ⟨w.heap.size, 1, none⟩ = some (.int .i64 xi) := by rw [drew_is]; exact x1 _
      have n2 : W.drew.cell? ⟨w.heap.size, 2, none⟩ = some (.int .i64 xl) := by rw [drew_is]; exact x2 _
      have n3 : W.drew.cell? ⟨w.heap.size, 3, none⟩ = some (.int .i64 xa) := by rw [drew_is]; exact x3 _
      have n4 : W.drew.cell? ⟨w.heap.size + 1, 0, none⟩ = some (.int .i64 yn) := by rw [drew_is]; exact y0 _
      have n4' : W.drew.cell? ⟨w.heap.size + 1, 1, none⟩ = some (.int .i64 yi) := by rw [drew_is]; exact y1 _
      have n5 : W.drew.cell? ⟨w.heap.size + 1, 2, none⟩ = some (.int .i64 yl) := by rw [drew_is]; exact y2 _
      have n6 : W.drew.cell? ⟨w.heap.size + 1, 3, none⟩ = some (.int .i64 ya) := by rw [drew_is]; exact y3 _
      clear x0 x1 x2 x3 y0 y1 y2 y3 cW
      go_region_held3 (fun w' => w'.cell? ⟨b, 0, none⟩ = some (.func (.func fid) #[] caps) ∧ w'.cell? ⟨w.heap.size, 0, none⟩ = some (.int .i64 xn) ∧ w'.cell? ⟨w.heap.size, 1, none⟩ = some (.int .i64 xi) ∧ w'.cell? ⟨w.heap.size, 2, none⟩ = some (.int .i64 xl) ∧ w'.cell? ⟨w.heap.size, 3, none⟩ = some (.int .i64 xa) ∧ w'.cell? ⟨w.heap.size + 1, 0, none⟩ = some (.int .i64 yn) ∧ w'.cell? ⟨w.heap.size + 1, 1, none⟩ = some (.int .i64 yi) ∧ w'.cell? ⟨w.heap.size + 1, 2, none⟩ = some (.int .i64 yl) ∧ w'.cell? ⟨w.heap.size + 1, 3, none⟩ = some (.int .i64 ya)) (first | go_keep | (refine ⟨?_, ?_, ?_, ?_, ?_, ?_, ?_, ?_, ?_⟩ <;> assumption)) ((first | (refine (J2.out _).mono' ?_; intro z2; obtain ⟨m0, m1, m2, m3, m4, m5, m6, m7, m8⟩ := KM.out z2) | (go_at_call 114; refine (cmpj_any _ _ _).mono ?_; rintro e w' ⟨rfl, rfl⟩) | (go_at_call 113; refine (or_two _ _ _ _ ((Blk.new _ _ _ (by simp [more_size])).cell 0) ((Blk.new _ _ _ (by simp [more_size])).cell 1)).mono ?_; rintro e w' ⟨rfl, rfl⟩)))
      all_goals
        go_wp2
        go_ret
        have hW' := hW.out
        exact ⟨rfl, more_of_below (by repeat (first | (with_reducible exact bW.out) | (with_reducible refine Below.drew ?_) | (with_reducible refine Below.alloc ?_ (by simp [more_size]; try omega) _) | (with_reducible refine below_more ?_ _ (by simp [more_size]; try omega))))⟩
    · skip
      refine wp_region_more (by kernel_rfl) (by kernel_rfl) ?_
      repeat (go_big_quiet_step ((first | (with_reducible exact (J2.out _).at_))))
      refine wpQuiet_nil ?_
      rintro _ ⟨y, rfl⟩
      go_wp2
      go_ret
      exact ⟨rfl, more_of_below (below_more bW.out _ hW.out)⟩
  · go_wp2
    go_ret
    exact ⟨rfl, (more_of_below (by repeat (first | (with_reducible exact Below.refl _ _) | (with_reducible refine Below.drew ?_) | (with_reducible refine Below.alloc ?_ (by simp [more_size]; try omega) _) | (with_reducible refine Below.setCell ?_ (by simp [more_size]; try omega) _) | (with_reducible refine below_more ?_ _ (by simp [more_size]; try omega)))))⟩
end Go.Proofs.Ytilpgojkbgbinaa
