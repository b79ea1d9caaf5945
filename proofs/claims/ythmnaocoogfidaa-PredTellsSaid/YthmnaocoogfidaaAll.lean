/- Package pred: whether all hold; slices.IndexFunc over predicates. -/
import Derived.Test.YthmnaocoogfidaaPred
set_option maxRecDepth 100000
set_option linter.unusedVariables false
set_option linter.unusedSimpArgs false
namespace Go.Proofs.Ythmnaocoogfidaa
open Go.RowKit
attribute [local go_sem] run_frombits run_tobits more_more more_drew more_drewN more_size more_cell more_frozen run_store_float lt_c1 le_c1 lt_s1 le_s1 lt_c2 le_c2 lt_s2 le_s2 lt_c3 le_c3 lt_s3 le_s3 lt_c4 le_c4 lt_s4 le_s4 lt_c5 le_c5 lt_s5 le_s5 lt_c6 le_c6 lt_s6 le_s6 lt_c7 le_c7 lt_s7 le_s7 lt_c8 le_c8 lt_s8 le_s8 lt_c9 le_c9 lt_s9 le_s9 lt_c10 le_c10 lt_s10 le_s10 lt_c11 le_c11 lt_s11 le_s11 lt_c12 le_c12 lt_s12 le_s12 le_c0

structure Prd where
  f : Int
  op : Int
  v : Val
def prdC (p : Prd) : List Value := [.int .i64 p.f, .int .i64 p.op, .int .i64 p.v.k, .int .i64 p.v.i, .string p.v.s, .float .f64 p.v.f]
theorem prdC_len (p : Prd) : (prdC p).length = 6 := rfl
theorem prdC_one (p : Prd) : ∀ u ∈ prdC p, u.oneCell' = true := by
  intro u hu; simp [prdC] at hu; rcases hu with rfl | rfl | rfl | rfl | rfl | rfl <;> rfl
/-- the number of the first one of which q holds; -1: there is none -/
def idxP {α : Type} (q : α → Bool) : List α → Nat → Int
  | [], _ => -1
  | a :: l, k => if q a = true then (k : Int) else idxP q l (k + 1)
theorem idxP_any {α : Type} (q : α → Bool) : ∀ (l : List α) (k : Nat), (0 ≤ idxP q l k ↔ l.any q = true)
  | [], k => by simp [idxP]
  | a :: l, k => by
    unfold idxP
    by_cases h : q a = true
    · rw [if_pos h]; simp [h]
    · rw [if_neg h, idxP_any q l (k + 1)]
      simp [h]
set_option maxHeartbeats 1000000 in
theorem index_prd (fid : FuncId) (E : ∀ (args : Array Value) (w : World), (callFunc fid args).run Try.prog w = .ok (.enter fid args) w) (cp : Value) (q : Prd → Bool) (A : Option Addr) (ca n : Nat) (l : List Prd) (w : World) (hn : l.length = n) (la : n ≤ 9223372036854775807) (ha : RowIn prdC 6 w A l)
    (H : ∀ W p, p ∈ l → Below w.heap.size w W → Gives Try.prog fid #[predV p.f p.op p.v, cp] W (.bool (q p))) :
    Gives Try.prog 102 #[.slice A n ca, .func (.func fid) #[] #[cp]] w (.int .i64 (idxP q l 0)) := by
  subst hn
  have HA := Lib.hid ha; clear ha
  replace H := Lib.hid H
  go_enter Try.func102, Try.ntmps102
  go_wp2
  go_loopw [8] (fun i wr => ∃ (k : Nat) (x : Ext), k ≤ l.length ∧ i = .int .i64 k ∧ Hid (idxP q (l.drop k) k = idxP q l 0) ∧ more w x = wr) (fun i _ => l.length - (intOf i).toNat)
  case atStart => exact ⟨0, _, by omega, rfl, Lib.hid rfl, more_self w⟩
  case round =>
    obtain ⟨k, x, hk, rfl, hr, rfl⟩ := hrel
    by_cases h1 : k < l.length
    · have h1' : (k : Int) < (l.length : Int) := by omega
      obtain ⟨b, off, rfl, hb, hcb⟩ := HA.out k h1
      have hm := hcb k h1
      clear hcb
      have HS := Lib.hid (show (if q l[k] = true then (k : Int) else idxP q (l.drop (k + 1)) (k + 1 : Nat)) = idxP q l 0 by
        rw [← hr.out, List.drop_eq_getElem_cons h1]; rfl)
      have HH := fun W h => H.out W l[k] (List.getElem_mem h1) h
      generalize l[k] = p at *
      have C0 := fun y => (more_cell w y _ hb).trans (hm 0 _ rfl)
      have C1 := fun y => (more_cell w y _ hb).trans (hm 1 _ rfl)
      have C2 := fun y => (more_cell w y _ hb).trans (hm 2 _ rfl)
      have C3 := fun y => (more_cell w y _ hb).trans (hm 3 _ rfl)
      have C4 := fun y => (more_cell w y _ hb).trans (hm 4 _ rfl)
      have C5 := fun y => (more_cell w y _ hb).trans (hm 5 _ rfl)
      simp only [Nat.add_zero] at C0
      clear hm
      obtain ⟨pf, pop, pk, pi, ps, pff⟩ := p
      dsimp only [predV] at *
      cases hq : q ⟨pf, pop, ⟨pk, pi, ps, pff⟩⟩ with
      | true =>
        rw [hq] at HH HS
        replace HH := Lib.hid HH
        clear hq
        go_wp2_with fail
        refine (HH.out _ (more_below _ _)).mono' ?_; intro y
        go_wp2
        go_ret
        refine ⟨ret_i64 ?_, (more_of_below (by repeat (first | (with_reducible exact Below.refl _ _) | (with_reducible refine Below.drew ?_) | (with_reducible refine Below.alloc ?_ (by simp [more_size]; try omega) _) | (with_reducible refine Below.setCell ?_ (by simp [more_size]; try omega) _) | (with_reducible refine below_more ?_ _ (by simp [more_size]; try omega)))))⟩
        have := HS.out
        simpa using this
      | false =>
        rw [hq] at HH HS
        replace HH := Lib.hid HH
        clear hq
        go_wp2_with fail
        refine (HH.out _ (more_below _ _)).mono' ?_; intro y
        go_wp2
        refine ⟨⟨k + 1, _, by omega, by go_num, Lib.hid ?_, rfl⟩, by simp [intOf]; omega⟩
        have := HS.out
        simpa using this
    · have h1' : ¬ (k : Int) < (l.length : Int) := by omega
      go_wp2
      go_ret
      refine ⟨ret_i64 ?_, _, rfl⟩
      rw [← hr.out, List.drop_eq_nil_of_le (by omega)]; rfl
theorem idxP_ge {α : Type} (q : α → Bool) (l : List α) (k : Nat) : decide (0 ≤ idxP q l k) = l.any q := by
  rw [Bool.eq_iff_iff, decide_eq_true_iff]; exact idxP_any q l k
set_option maxHeartbeats 1000000 in
theorem contains_prd (fid : FuncId) (E : ∀ (args : Array Value) (w : World), (callFunc fid args).run Try.prog w = .ok (.enter fid args) w) (cp : Value) (q : Prd → Bool) (A : Option Addr) (ca n : Nat) (l : List Prd) (w : World) (hn : l.length = n) (la : n ≤ 9223372036854775807) (ha : RowIn prdC 6 w A l)
    (H : ∀ W p, p ∈ l → Below w.heap.size w W → Gives Try.prog fid #[predV p.f p.op p.v, cp] W (.bool (q p))) :
    Gives Try.prog 63 #[.slice A n ca, .func (.func fid) #[] #[cp]] w (.bool (l.any q)) := by
  have IX := index_prd fid E cp q A ca n l w hn la ha H
  have e := idxP_ge q l 0
  rw [← e]
  generalize idxP q l 0 = i at *
  replace IX := Lib.hid IX
  clear ha H e
  go_enter Try.func63, Try.ntmps63
  go_wp2_with fail
  refine IX.out.mono' ?_; intro y
  go_wp2
  go_ret
  exact ⟨rfl, (more_of_below (by repeat (first | (with_reducible exact Below.refl _ _) | (with_reducible refine Below.drew ?_) | (with_reducible refine Below.alloc ?_ (by simp [more_size]; try omega) _) | (with_reducible refine Below.setCell ?_ (by simp [more_size]; try omega) _) | (with_reducible refine below_more ?_ _ (by simp [more_size]; try omega)))))⟩
set_option maxHeartbeats 1000000 in
theorem all1_any (p : Prd) (hv : p.v.ok) (g : Nat) (A : Option Addr) (ca : Nat) (l : List Val) (hl : allOk l) (W : World) (hg : g < W.heap.size) (hc : W.cell? ⟨g, 0, none⟩ = some (.slice A l.length ca)) (la : l.length ≤ 9223372036854775807) (ha : ValsIn W A l) :
    Gives Try.prog 64 #[predV p.f p.op p.v, .pointer (some ⟨g, 0, none⟩)] W (.bool (!holdsB p.f p.op p.v l)) := by
  have HO := Lib.hid (fun w h => holds_any p.f p.op p.v hv A ca l hl w la h)
  have HA := Lib.hid ha; clear ha
  have hc' : ∀ o, (W.alloc o).cell? ⟨g, 0, none⟩ = some (.slice A l.length ca) := fun o => by rw [alloc_is]; exact (more_cell W _ _ hg).trans hc
  generalize holdsB p.f p.op p.v l = hb at *
  unfold predV at *
  go_enter Try.func64, Try.ntmps64
  go_wp2_with fail
  refine (HO.out _ (HA.out.below (by repeat (first | (with_reducible exact Below.refl _ _) | (with_reducible refine Below.drew ?_) | (with_reducible refine Below.alloc ?_ (by simp [more_size]; try omega) _) | (with_reducible refine Below.setCell ?_ (by simp [more_size]; try omega) _) | (with_reducible refine below_more ?_ _ (by simp [more_size]; try omega)))))).mono' ?_; intro y
  go_wp2
  go_ret
  exact ⟨rfl, (more_of_below (by repeat (first | (with_reducible exact Below.refl _ _) | (with_reducible refine Below.drew ?_) | (with_reducible refine Below.alloc ?_ (by simp [more_size]; try omega) _) | (with_reducible refine Below.setCell ?_ (by simp [more_size]; try omega) _) | (with_reducible refine below_more ?_ _ (by simp [more_size]; try omega)))))⟩
def allB (ps : List Prd) (l : List Val) : Bool := ps.all fun p => holdsB p.f p.op p.v l
theorem any_not (ps : List Prd) (l : List Val) : (!ps.any fun p => !holdsB p.f p.op p.v l) = allB ps l := by
  unfold allB; rw [List.all_eq_not_any_not]
def prdsOk (ps : List Prd) : Prop := ∀ p ∈ ps, p.v.ok
set_option maxHeartbeats 1000000 in
theorem all_any (B : Option Addr) (cb n : Nat) (ps : List Prd) (hp : prdsOk ps) (A : Option Addr) (ca : Nat) (l : List Val) (hl : allOk l) (w : World) (hn : ps.length = n) (lb : n ≤ 9223372036854775807) (la : l.length ≤ 9223372036854775807)
    (hb : RowIn prdC 6 w B ps) (ha : ValsIn w A l) :
    Gives Try.prog 23 #[.slice B n cb, .slice A l.length ca] w (.bool (allB ps l)) := by
  have CF : ∀ W, Below w.heap.size w W → w.heap.size < W.heap.size → W.cell? ⟨w.heap.size, 0, none⟩ = some (.slice A l.length ca) → Gives Try.prog 63 #[.slice B n cb, .func (.func 64) #[] #[.pointer (some ⟨w.heap.size, 0, none⟩)]] W (.bool (ps.any fun p => !holdsB p.f p.op p.v l)) := fun W h1 h2 h3 =>
    contains_prd 64 (enters Try.func64 (by kernel_rfl) rfl) (.pointer (some ⟨w.heap.size, 0, none⟩)) (fun p => !holdsB p.f p.op p.v l) B cb n ps W hn lb (hb.below h1) (fun W2 p hm h4 =>
      all1_any p (hp p hm) w.heap.size A ca l hl W2 (Nat.lt_of_lt_of_le h2 h4.size) ((h4.cell (p := ⟨_, 0, none⟩) h2).trans h3) la ((ha.below h1).below h4))
  have e := any_not ps l
  rw [← e]
  generalize (ps.any fun p => !holdsB p.f p.op p.v l) = r at *
  replace CF := Lib.hid CF
  clear e ha hb
  go_enter Try.func23, Try.ntmps23
  go_wp2_with fail
  refine (CF.out _ (by repeat (first | (with_reducible exact Below.refl _ _) | (with_reducible refine Below.drew ?_) | (with_reducible refine Below.alloc ?_ (by simp [more_size]; try omega) _) | (with_reducible refine Below.setCell ?_ (by simp [more_size]; try omega) _) | (with_reducible refine below_more ?_ _ (by simp [more_size]; try omega)))) (by simp) (by simp)).mono' ?_; intro y
  go_wp2
  go_ret
  exact ⟨rfl, (more_of_below (by repeat (first | (with_reducible exact Below.refl _ _) | (with_reducible refine Below.drew ?_) | (with_reducible refine Below.alloc ?_ (by simp [more_size]; try omega) _) | (with_reducible refine Below.setCell ?_ (by simp [more_size]; try omega) _) | (with_reducible refine below_more ?_ _ (by simp [more_size]; try omega)))))⟩
end Go.Proofs.Ythmnaocoogfidaa
