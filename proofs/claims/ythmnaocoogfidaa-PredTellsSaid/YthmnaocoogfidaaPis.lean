/- Package pred: whether a query may be. -/
import Derived.Test.YthmnaocoogfidaaSingle
import Derived.Test.YthmnaocoogfidaaBefore
set_option maxRecDepth 100000
set_option linter.unusedVariables false
set_option linter.unusedSimpArgs false
namespace Go.Proofs.Ythmnaocoogfidaa
open Go.RowKit
attribute [local go_sem] run_frombits run_tobits more_more more_drew more_drewN more_size more_cell more_frozen run_store_float lt_c1 le_c1 lt_s1 le_s1 lt_c2 le_c2 lt_s2 le_s2 lt_c3 le_c3 lt_s3 le_s3 lt_c4 le_c4 lt_s4 le_s4 lt_c5 le_c5 lt_s5 le_s5 lt_c6 le_c6 lt_s6 le_s6 lt_c7 le_c7 lt_s7 le_s7 lt_c8 le_c8 lt_s8 le_s8 lt_c9 le_c9 lt_s9 le_s9 lt_c10 le_c10 lt_s10 le_s10 lt_c11 le_c11 lt_s11 le_s11 lt_c12 le_c12 lt_s12 le_s12 le_c0

set_option maxHeartbeats 1000000 in
theorem index_ord (fid : FuncId) (E : ∀ (args : Array Value) (w : World), (callFunc fid args).run Try.prog w = .ok (.enter fid args) w) (cp : Value) (q : Ord → Bool) (A : Option Addr) (ca n : Nat) (l : List Ord) (w : World) (hn : l.length = n) (la : n ≤ 9223372036854775807) (ha : RowIn ordC 2 w A l)
    (H : ∀ W p, p ∈ l → Below w.heap.size w W → Gives Try.prog fid #[.agg #[.int .i64 p.f, .bool p.d], cp] W (.bool (q p))) :
    Gives Try.prog 108 #[.slice A n ca, .func (.func fid) #[] #[cp]] w (.int .i64 (idxP q l 0)) := by
  subst hn
  have HA := Lib.hid ha; clear ha
  replace H := Lib.hid H
  go_enter Try.func108, Try.ntmps108
  go_wp2
  go_loopw [8] (fun i wr => ∃ (k : Nat) (x : Ext), k ≤ l.length ∧ i = .int .i64 k ∧ Hid (idxP q (l.drop k) k = idxP q l 0) ∧ more w x = wr) (fun i _ => l.length - (intOf i).toNat)
  case atStart => exact ⟨0, _, by omega, rfl, Lib.hid rfl, more_self w⟩
  case round =>
    obtain ⟨k, x, hk, rfl, hr, rfl⟩ := hrel
    by_cases h1 : k < l.length
    · have h1' : (k : Int) < (l.length : Int) := by omega
      obtain ⟨b, off, rfl, hb, hcb⟩ := HA.out k h1
      have hm := hcb k h1
      clear hcb
      have HS := Lib.hid (show (if q l[k] = true then (k : Int) else idxP q (l.drop (k + 1)) (k + 1 : Nat)) = idxP q l 0 by
        rw [← hr.out, List.drop_eq_getElem_cons h1]; rfl)
      have HH := fun W h => H.out W l[k] (List.getElem_mem h1) h
      generalize l[k] = p at *
      have C0 := fun y => (more_cell w y _ hb).trans (hm 0 _ rfl)
      have C1 := fun y => (more_cell w y _ hb).trans (hm 1 _ rfl)
      simp only [Nat.add_zero] at C0
      clear hm
      obtain ⟨pf, pd⟩ := p
      dsimp only at *
      cases hq : q ⟨pf, pd⟩ with
      | true =>
        rw [hq] at HH HS
        replace HH := Lib.hid HH
        clear hq
        go_wp2_with fail
        refine (HH.out _ (more_below _ _)).mono' ?_; intro y
        go_wp2
        go_ret
        refine ⟨ret_i64 ?_, (more_of_below (by repeat (first | (with_reducible exact Below.refl _ _) | (with_reducible refine Below.drew ?_) | (with_reducible refine Below.alloc ?_ (by simp [more_size]; try omega) _) | (with_reducible refine Below.setCell ?_ (by simp [more_size]; try omega) _) | (with_reducible refine below_more ?_ _ (by simp [more_size]; try omega)))))⟩
        have := HS.out
        simpa using this
      | false =>
        rw [hq] at HH HS
        replace HH := Lib.hid HH
        clear hq
        go_wp2_with fail
        refine (HH.out _ (more_below _ _)).mono' ?_; intro y
        go_wp2
        refine ⟨⟨k + 1, _, by omega, by go_num, Lib.hid ?_, rfl⟩, by simp [intOf]; omega⟩
        have := HS.out
        simpa using this
    · have h1' : ¬ (k : Int) < (l.length : Int) := by omega
      go_wp2
      go_ret
      refine ⟨ret_i64 ?_, _, rfl⟩
      rw [← hr.out, List.drop_eq_nil_of_le (by omega)]; rfl
set_option maxHeartbeats 1000000 in
theorem contains_ord (fid : FuncId) (E : ∀ (args : Array Value) (w : World), (callFunc fid args).run Try.prog w = .ok (.enter fid args) w) (cp : Value) (q : Ord → Bool) (A : Option Addr) (ca n : Nat) (l : List Ord) (w : World) (hn : l.length = n) (la : n ≤ 9223372036854775807) (ha : RowIn ordC 2 w A l)
    (H : ∀ W p, p ∈ l → Below w.heap.size w W → Gives Try.prog fid #[.agg #[.int .i64 p.f, .bool p.d], cp] W (.bool (q p))) :
    Gives Try.prog 71 #[.slice A n ca, .func (.func fid) #[] #[cp]] w (.bool (l.any q)) := by
  have IX := index_ord fid E cp q A ca n l w hn la ha H
  have e := idxP_ge q l 0
  rw [← e]
  generalize idxP q l 0 = i at *
  replace IX := Lib.hid IX
  clear ha H e
  go_enter Try.func71, Try.ntmps71
  go_wp2_with fail
  refine IX.out.mono' ?_; intro y
  go_wp2
  go_ret
  exact ⟨rfl, (more_of_below (by repeat (first | (with_reducible exact Below.refl _ _) | (with_reducible refine Below.drew ?_) | (with_reducible refine Below.alloc ?_ (by simp [more_size]; try omega) _) | (with_reducible refine Below.setCell ?_ (by simp [more_size]; try omega) _) | (with_reducible refine below_more ?_ _ (by simp [more_size]; try omega)))))⟩
set_option maxHeartbeats 1000000 in
theorem is2_any (p : Ord) (f : Int) (g : Nat) (W : World) (hg : g < W.heap.size) (hc : W.cell? ⟨g, 0, none⟩ = some (.int .i64 f)) :
    Gives Try.prog 72 #[.agg #[.int .i64 p.f, .bool p.d], .pointer (some ⟨g, 0, none⟩)] W (.bool (p.f == f)) := by
  have hc' : ∀ o, (W.alloc o).cell? ⟨g, 0, none⟩ = some (.int .i64 f) := fun o => by rw [alloc_is]; exact (more_cell W _ _ hg).trans hc
  go_enter Try.func72, Try.ntmps72
  go_wp2
  go_ret
  exact ⟨rfl, (more_of_below (by repeat (first | (with_reducible exact Below.refl _ _) | (with_reducible refine Below.drew ?_) | (with_reducible refine Below.alloc ?_ (by simp [more_size]; try omega) _) | (with_reducible refine Below.setCell ?_ (by simp [more_size]; try omega) _) | (with_reducible refine below_more ?_ _ (by simp [more_size]; try omega)))))⟩
set_option maxHeartbeats 1000000 in
theorem is1_any (p : Prd) (hv : p.v.ok) (g : Nat) (A : Option Addr) (ca n : Nat) (s : List Fld) (W : World) (hn : s.length = n) (la : n ≤ 9223372036854775807) (hg : g < W.heap.size) (hc : W.cell? ⟨g, 0, none⟩ = some (.slice A n ca)) (ha : FieldsIn W A s) :
    Gives Try.prog 69 #[predV p.f p.op p.v, .pointer (some ⟨g, 0, none⟩)] W (.bool (!sngB s p)) := by
  have SG := Lib.hid (fun w h => single_any A ca n s p hv w hn la h)
  have HA := Lib.hid ha; clear ha
  have hc' : ∀ o, (W.alloc o).cell? ⟨g, 0, none⟩ = some (.slice A n ca) := fun o => by rw [alloc_is]; exact (more_cell W _ _ hg).trans hc
  generalize sngB s p = sb at *
  unfold predV at *
  go_enter Try.func69, Try.ntmps69
  go_wp2_with fail
  refine (SG.out _ (HA.out.below (by repeat (first | (with_reducible exact Below.refl _ _) | (with_reducible refine Below.drew ?_) | (with_reducible refine Below.alloc ?_ (by simp [more_size]; try omega) _) | (with_reducible refine Below.setCell ?_ (by simp [more_size]; try omega) _) | (with_reducible refine below_more ?_ _ (by simp [more_size]; try omega)))))).mono' ?_; intro y
  go_wp2
  go_ret
  exact ⟨rfl, (more_of_below (by repeat (first | (with_reducible exact Below.refl _ _) | (with_reducible refine Below.drew ?_) | (with_reducible refine Below.alloc ?_ (by simp [more_size]; try omega) _) | (with_reducible refine Below.setCell ?_ (by simp [more_size]; try omega) _) | (with_reducible refine below_more ?_ _ (by simp [more_size]; try omega)))))⟩
def okO (n : Nat) (os : List Ord) (i : Nat) (o : Ord) : Bool := !((os.take i).any fun b => b.f == o.f) && decide (0 ≤ o.f ∧ o.f < n)
def goO (n : Nat) (os : List Ord) : List Ord → Nat → Bool
  | [], _ => true
  | o :: r, i => okO n os i o && goO n os r (i + 1)
def isqN (s : List Fld) (ps : List Prd) (os : List Ord) (off : Int) : Int :=
  if isF s = false then 40 else if 6 < ps.length then 90 else if 3 < os.length then 90 else if off < 0 then 90 else if (ps.any fun p => !sngB s p) = true then 90 else if goO s.length os os 0 = true then 0 else 90
set_option maxHeartbeats 8000000 in
theorem isq_any (A B C : Option Addr) (ca cb cc : Nat) (s : List Fld) (ps : List Prd) (os : List Ord) (off lim : Int) (hs : namesOk s) (hp : prdsOk ps) (w : World) (la : s.length ≤ ca) (lca : ca ≤ 9223372036854775807) (lb : ps.length ≤ cb) (lcb : cb ≤ 9223372036854775807) (lc : os.length ≤ cc) (lcc : cc ≤ 9223372036854775807)
    (ha : FieldsIn w A s) (hb : RowIn prdC 6 w B ps) (hc : RowIn ordC 2 w C os) :
    Gives Try.prog 28 #[.slice A s.length ca, .agg #[.slice B ps.length cb, .slice C os.length cc, .int .i64 off, .int .i64 lim]] w (.int .i64 (isqN s ps os off)) := by
  obtain ⟨r, HR⟩ : ∃ r, r = isqN s ps os off := ⟨_, rfl⟩
  rw [← HR]
  unfold isqN at HR
  replace HR := Lib.hid HR
  have IS := Lib.hid (fun W (h : Below w.heap.size w W) => isf_any A ca s hs W la lca (ha.below h))
  go_enter Try.func28, Try.ntmps28
  go_wp2_with fail
  refine calls_at (R := fun W => Below w.heap.size w W ∧ Blk W w.heap.size #[.slice A s.length ca] 51 ∧ Blk W (w.heap.size + 1) #[.slice B ps.length cb, .slice C os.length cc, .int .i64 off, .int .i64 lim] 53) ⟨(by repeat (first | (with_reducible exact Below.refl _ _) | (with_reducible refine Below.drew ?_) | (with_reducible refine Below.alloc ?_ (by simp [more_size]; try omega) _) | (with_reducible refine Below.setCell ?_ (by simp [more_size]; try omega) _) | (with_reducible refine below_more ?_ _ (by simp [more_size]; try omega)))), (Blk.new _ _ _ (by simp)).alloc _, Blk.new _ _ _ (by simp)⟩ ?_
  rintro W ⟨bW, k1, k2⟩
  refine (IS.out _ bW).mono' ?_; intro x
  replace k1 := k1.more x
  replace k2 := k2.more x
  replace bW := bW.trans ((more_below W x).mono bW.size)
  generalize more W x = W1 at *
  replace HR := HR.out
  have k1c : W1.cell? ⟨w.heap.size, 0, none⟩ = some (.slice A s.length ca) := k1.cell 0
  have d0 := fun y => (k1.more y).cell 0
  have e0 := fun y => (k2.more y).cell 0
  have e1 := fun y => (k2.more y).cell 1
  have e2 := fun y => (k2.more y).cell 2
  have e0' : W1.cell? ⟨w.heap.size + 1, 0, none⟩ = some (.slice B ps.length cb) := k2.cell 0
  have e1' : W1.cell? ⟨w.heap.size + 1, 1, none⟩ = some (.slice C os.length cc) := k2.cell 1
  have e2' : W1.cell? ⟨w.heap.size + 1, 2, none⟩ = some (.int .i64 off) := k2.cell 2
  have sW := k1.lt
  have sW2 := k2.lt
  clear k1 k2 IS
  have fin := Lib.hid (fun y => more_of_below (bW.trans ((more_below W1 y).mono bW.size)))
  have fin0 := Lib.hid (more_of_below bW)
  cases hf : isF s with
  | false =>
    rw [hf, if_pos rfl] at HR
    subst HR
    go_wp2
    go_ret
    exact ⟨rfl, fin0.out⟩
  | true =>
    rw [hf, if_neg (by decide)] at HR
    by_cases h1 : 6 < ps.length
    · have h1' : (6 : Int) < (ps.length : Int) := by omega
      rw [if_pos h1] at HR
      subst HR
      go_wp2
      go_ret
      exact ⟨rfl, fin0.out⟩
    · have h1' : ¬ (6 : Int) < (ps.length : Int) := by omega
      rw [if_neg h1] at HR
      by_cases h2 : 3 < os.length
      · have h2' : (3 : Int) < (os.length : Int) := by omega
        rw [if_pos h2] at HR
        subst HR
        go_wp2
        go_ret
        exact ⟨rfl, fin0.out⟩
      · have h2' : ¬ (3 : Int) < (os.length : Int) := by omega
        rw [if_neg h2] at HR
        by_cases h3 : off < 0
        · rw [if_pos h3] at HR
          subst HR
          go_wp2
          go_ret
          exact ⟨rfl, fin0.out⟩
        · rw [if_neg h3] at HR
          have CF := contains_prd 69 (enters Try.func69 (by kernel_rfl) rfl) (.pointer (some ⟨w.heap.size, 0, none⟩)) (fun p => !sngB s p) B cb ps.length ps W1 rfl (by omega) (hb.below bW) (fun W2 p hm h4 =>
            is1_any p (hp p hm) w.heap.size A ca s.length s W2 rfl (by omega) (Nat.lt_of_lt_of_le sW h4.size) ((h4.cell (p := ⟨_, 0, none⟩) sW).trans k1c) ((ha.below bW).below h4))
          generalize (ps.any fun p => !sngB s p) = pa at *
          replace CF := Lib.hid CF
          cases pa with
          | true =>
            rw [if_pos rfl] at HR
            subst HR
            go_wp2_with fail
            refine CF.out.mono' ?_; intro y
            go_wp2
            go_ret
            exact ⟨rfl, fin.out _⟩
          | false =>
            rw [if_neg (by decide)] at HR
            replace HR := Lib.hid HR
            have HC := Lib.hid (hc.below bW)
            clear ha hb hc hf
            go_wp2_with fail
            refine CF.out.mono' ?_; intro y
            go_wp2
            go_loopw [32] (fun t wr => ∃ (k : Nat) (x : Ext), k ≤ os.length ∧ t = .int .i64 k ∧ Hid (goO s.length os (os.drop k) k = goO s.length os os 0) ∧ more W1 x = wr) (fun t _ => os.length - (intOf t).toNat)
            case atStart => exact ⟨0, _, by omega, rfl, Lib.hid rfl, rfl⟩
            case round =>
              obtain ⟨k, x, hk, rfl, hr, rfl⟩ := hrel
              by_cases h1 : k < os.length
              · have h1' : (k : Int) < (os.length : Int) := by omega
                have hkc : (k : Int) ≤ (cc : Int) := by omega
                obtain ⟨b, of, rfl, hbl, hcb⟩ := HC.out k h1
                have hm := hcb k h1
                clear hcb
                have HS := Lib.hid (show (okO s.length os k os[k] && goO s.length os (os.drop (k + 1)) (k + 1)) = goO s.length os os 0 by
                  rw [← hr.out, List.drop_eq_getElem_cons h1]; rfl)
                have C0 := fun y => (more_cell W1 y _ hbl).trans (hm 0 _ rfl)
                have C1 := fun y => (more_cell W1 y _ hbl).trans (hm 1 _ rfl)
                simp only [Nat.add_zero] at C0
                clear hm
                generalize os[k] = o at *
                obtain ⟨f, d⟩ := o
                have hok : okO s.length os k ⟨f, d⟩ = (!((os.take k).any fun b => b.f == f) && decide (0 ≤ f ∧ f < s.length)) := rfl
                dsimp only at *
                have CO : ∀ W2 g, Below W1.heap.size W1 W2 → g < W2.heap.size → W2.cell? ⟨g, 0, none⟩ = some (.int .i64 f) → Gives Try.prog 71 #[.slice (some ⟨b, of, none⟩) k cc, .func (.func 72) #[] #[.pointer (some ⟨g, 0, none⟩)]] W2 (.bool ((os.take k).any fun b => b.f == f)) := fun W2 g h1 h2 h3 =>
                  contains_ord 72 (enters Try.func72 (by kernel_rfl) rfl) (.pointer (some ⟨g, 0, none⟩)) (fun b => b.f == f) _ cc k (os.take k) W2 (by simp; omega) (by omega) ((HC.out.below h1).take k) (fun W3 p _ h4 => is2_any p f g W3 (Nat.lt_of_lt_of_le h2 h4.size) ((h4.cell (p := ⟨g, 0, none⟩) h2).trans h3))
                generalize ((os.take k).any fun b => b.f == f) = tw at *
                rw [hok] at HS
                replace CO := Lib.hid CO
                clear hok
                cases tw with
                | true =>
                  have e : r = 90 := by rw [HR.out, ← HS.out]; rfl
                  subst e
                  go_wp2_with fail
                  refine (CO.out _ _ (by repeat (first | (with_reducible exact Below.refl _ _) | (with_reducible refine Below.drew ?_) | (with_reducible refine Below.alloc ?_ (by simp [more_size]; try omega) _) | (with_reducible refine Below.setCell ?_ (by simp [more_size]; try omega) _) | (with_reducible refine below_more ?_ _ (by simp [more_size]; try omega)))) (by simp [more_size]) (by simp [go_sem, more_size])).mono' ?_; intro y2
                  go_wp2
                  go_ret
                  exact ⟨rfl, more_of_below (bW.trans (Below.mono (B := W1.heap.size) (by repeat (first | (with_reducible exact Below.refl _ _) | (with_reducible refine Below.drew ?_) | (with_reducible refine Below.alloc ?_ (by simp [more_size]; try omega) _) | (with_reducible refine Below.setCell ?_ (by simp [more_size]; try omega) _) | (with_reducible refine below_more ?_ _ (by simp [more_size]; try omega)))) bW.size))⟩
                | false =>
                  rcases (show f < 0 ∨ (0 ≤ f ∧ (s.length : Int) ≤ f) ∨ (0 ≤ f ∧ f < s.length) by omega) with q | ⟨q1, q2⟩ | ⟨q1, q2⟩
                  · have e : r = 90 := by rw [HR.out, ← HS.out, decide_eq_false (by omega : ¬ (0 ≤ f ∧ f < s.length))]; rfl
                    subst e
                    go_wp2_with fail
                    refine (CO.out _ _ (by repeat (first | (with_reducible exact Below.refl _ _) | (with_reducible refine Below.drew ?_) | (with_reducible refine Below.alloc ?_ (by simp [more_size]; try omega) _) | (with_reducible refine Below.setCell ?_ (by simp [more_size]; try omega) _) | (with_reducible refine below_more ?_ _ (by simp [more_size]; try omega)))) (by simp [more_size]) (by simp [go_sem, more_size])).mono' ?_; intro y2
                    go_wp2
                    go_ret
                    exact ⟨rfl, more_of_below (bW.trans (Below.mono (B := W1.heap.size) (by repeat (first | (with_reducible exact Below.refl _ _) | (with_reducible refine Below.drew ?_) | (with_reducible refine Below.alloc ?_ (by simp [more_size]; try omega) _) | (with_reducible refine Below.setCell ?_ (by simp [more_size]; try omega) _) | (with_reducible refine below_more ?_ _ (by simp [more_size]; try omega)))) bW.size))⟩
                  · have e : r = 90 := by rw [HR.out, ← HS.out, decide_eq_false (by omega : ¬ (0 ≤ f ∧ f < s.length))]; rfl
                    subst e
                    have q1' : ¬ f < 0 := by omega
                    go_wp2_with fail
                    refine (CO.out _ _ (by repeat (first | (with_reducible exact Below.refl _ _) | (with_reducible refine Below.drew ?_) | (with_reducible refine Below.alloc ?_ (by simp [more_size]; try omega) _) | (with_reducible refine Below.setCell ?_ (by simp [more_size]; try omega) _) | (with_reducible refine below_more ?_ _ (by simp [more_size]; try omega)))) (by simp [more_size]) (by simp [go_sem, more_size])).mono' ?_; intro y2
                    go_wp2
                    go_ret
                    exact ⟨rfl, more_of_below (bW.trans (Below.mono (B := W1.heap.size) (by repeat (first | (with_reducible exact Below.refl _ _) | (with_reducible refine Below.drew ?_) | (with_reducible refine Below.alloc ?_ (by simp [more_size]; try omega) _) | (with_reducible refine Below.setCell ?_ (by simp [more_size]; try omega) _) | (with_reducible refine below_more ?_ _ (by simp [more_size]; try omega)))) bW.size))⟩
                  · have q1' : ¬ f < 0 := by omega
                    have q2' : ¬ (s.length : Int) ≤ f := by omega
                    have HS2 := HS.out
                    rw [decide_eq_true (show 0 ≤ f ∧ f < s.length from ⟨q1, q2⟩)] at HS2
                    replace HS2 := Lib.hid (show goO s.length os (os.drop (k + 1)) (k + 1) = goO s.length os os 0 by simpa using HS2)
                    go_wp2_with fail
                    refine (CO.out _ _ (by repeat (first | (with_reducible exact Below.refl _ _) | (with_reducible refine Below.drew ?_) | (with_reducible refine Below.alloc ?_ (by simp [more_size]; try omega) _) | (with_reducible refine Below.setCell ?_ (by simp [more_size]; try omega) _) | (with_reducible refine below_more ?_ _ (by simp [more_size]; try omega)))) (by simp [more_size]) (by simp [go_sem, more_size])).mono' ?_; intro y2
                    go_wp2
                    obtain ⟨x', e⟩ := more_of_below (w := W1) (w' := more ((more W1 x).alloc (Obj.cells #[Value.int IntKind.i64 f, Value.bool d] 115)) y2) (by repeat (first | (with_reducible exact Below.refl _ _) | (with_reducible refine Below.drew ?_) | (with_reducible refine Below.alloc ?_ (by simp [more_size]; try omega) _) | (with_reducible refine Below.setCell ?_ (by simp [more_size]; try omega) _) | (with_reducible refine below_more ?_ _ (by simp [more_size]; try omega))))
                    exact ⟨⟨k + 1, x', by omega, by go_num, HS2, e.symm⟩, by simp [intOf]; omega⟩
              · have h1' : ¬ (k : Int) < (os.length : Int) := by omega
                have e : r = 0 := by rw [HR.out, ← hr.out, List.drop_eq_nil_of_le (by omega)]; rfl
                subst e
                go_wp2
                go_ret
                exact ⟨rfl, fin.out _⟩
end Go.Proofs.Ythmnaocoogfidaa
