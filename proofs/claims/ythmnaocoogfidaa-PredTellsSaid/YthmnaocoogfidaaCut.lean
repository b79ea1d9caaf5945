/- pred.Cut of numbers. -/
import Derived.Test.YthmnaocoogfidaaOwn
import Derived.Lib.SliceRun
import Derived.WalkSpells
import Derived.WalkLawsBesides
set_option maxRecDepth 100000
set_option linter.unusedVariables false
set_option linter.unusedSimpArgs false
namespace Go.Proofs.Ythmnaocoogfidaa
open Go.RowKit
attribute [local go_sem] run_frombits run_tobits more_more more_drew more_drewN more_size more_cell more_frozen run_store_float lt_c1 le_c1 lt_s1 le_s1 lt_c2 le_c2 lt_s2 le_s2 lt_c3 le_c3 lt_s3 le_s3 lt_c4 le_c4 lt_s4 le_s4 lt_c5 le_c5 lt_s5 le_s5 lt_c6 le_c6 lt_s6 le_s6 lt_c7 le_c7 lt_s7 le_s7 lt_c8 le_c8 lt_s8 le_s8 lt_c9 le_c9 lt_s9 le_s9 lt_c10 le_c10 lt_s10 le_s10 lt_c11 le_c11 lt_s11 le_s11 lt_c12 le_c12 lt_s12 le_s12 le_c0

/-- a row of numbers -/
def IntsIn (w : World) (A : Option Addr) (l : List Int) : Prop :=
  ∀ j (h : j < l.length), ∃ b off, A = some ⟨b, off, none⟩ ∧ b < w.heap.size ∧ ∀ j (h : j < l.length), w.cell? ⟨b, off + j, none⟩ = some (.int .i64 l[j])
theorem IntsIn.below {w w' : World} {A : Option Addr} {l : List Int} (h : IntsIn w A l) (hb : Below w.heap.size w w') : IntsIn w' A l := fun j hj => by
  obtain ⟨b, off, e, hlt, hc⟩ := h j hj
  exact ⟨b, off, e, Nat.lt_of_lt_of_le hlt hb.size, fun i hi => (hb.cell (p := ⟨b, _, none⟩) hlt).trans (hc i hi)⟩
def intC (n : Int) : List Value := [.int .i64 n]
theorem intC_len (n : Int) : (intC n).length = 1 := rfl
theorem intC_one (n : Int) : ∀ u ∈ intC n, u.oneCell' = true := by
  intro u hu; simp [intC] at hu; rcases hu with rfl; rfl
theorem info_int : (Try.prog.info? 3).map (fun i => (i.zero, i.size, i.bytes)) = some (some (.int .i64 0), 1, 8) := by kernel_rfl
theorem ints_own {w : World} {base : Nat} {e : TypeId} {v : Value} {l : List Int} {n : Nat} (hn : l.length = n) (h : w.ownsRow base e 1 v n (rowC intC l)) :
    ∃ A cap, v = .slice A n cap ∧ n ≤ cap ∧ cap ≤ 9223372036854775807 ∧ (A = none → cap = 0) ∧ IntsIn w A l := by
  subst hn
  obtain ⟨A, cap, rfl, h1, h2, h3, h4⟩ := own_open h
  refine ⟨A, cap, rfl, h1, h2, h3, fun j hj => ?_⟩
  obtain ⟨g, rfl, hg1, hg2, hc⟩ := h4 (by omega)
  refine ⟨g, 0, rfl, hg2, fun i hi => ?_⟩
  have := hc (i * 1 + 0) (.int .i64 l[i]) (by rw [rowC_get intC_len l i 0 hi (by omega)]; rfl)
  simpa using this
theorem cells_kept {w : World} {a : Addr} {xs : List Value} {o : Obj} (h : ∀ j u, xs[j]? = some u → w.cell? (a.add j) = some u) : ∀ j u, xs[j]? = some u → (w.alloc o).cell? (a.add j) = some u := by
  intro j u hu
  have := h j u hu
  rw [World.cell?_of_block (w := w) (Below.heap_alloc w o _ (cell_lt this))]
  exact this
/-- the part of a row -/
def cutL (l : List Int) (off lim : Int) : List Int :=
  if 0 ≤ lim then (l.drop off.toNat).take lim.toNat else l.drop off.toNat
def Got (w : World) (l : List Int) (e : Ending) (w' : World) : Prop := ∃ v, e = .returned v ∧ w'.ownsRow w.heap.size 3 1 v l.length (rowC intC l) ∧ Below w.heap.size w w'
set_option maxHeartbeats 1000000 in
theorem clone_int (A : Option Addr) (ca : Nat) (l : List Int) (w : World) (la : l.length ≤ 1000000) (hA : A = none → ca = 0 ∧ l = []) (ha : IntsIn w A l) :
    Calls Try.prog 60 #[.slice A l.length ca] w (Got w l) := by
  obtain ⟨i0, hi, hz0, hz1, hz2⟩ := info_parts info_int
  have qT : ∀ (w : World) (a : Option Addr) (n c n' c' : Nat), (binOp .eql 23 (.slice a n c) (.slice none n' c')).run Try.prog w = .ok (.bool a.isNone) w := fun w a n c n' c' => Lib.run_eql_slice_nil w _ _ a n c n' c' Try.underlying23
  cases A with
  | none =>
    obtain ⟨rfl, rfl⟩ := hA rfl
    go_enter Try.func60, Try.ntmps60
    go_wp2
    go_ret
    exact ⟨_, rfl, World.ownsRow_nil _ _ _ _, Below.refl _ _⟩
  | some a =>
    have hn : ∀ j u, (rowC intC l)[j]? = some u → w.cell? (a.add j) = some u := by
      intro j u hu
      have hl := rowC_length intC_len l
      have hj : j < l.length := by
        rcases Nat.lt_or_ge j (rowC intC l).length with q | q
        · omega
        · rw [List.getElem?_eq_none q] at hu; cases hu
      obtain ⟨b, off, e, hb, hc⟩ := ha j hj
      injection e with e
      subst e
      rw [Go.WideShapes.add_plain, hc j hj]
      have := rowC_get intC_len l j 0 hj (by omega)
      rw [show j * 1 + 0 = j by omega, hu] at this
      rw [this]; rfl
    have HN := Lib.hid hn; clear hn
    go_enter Try.func60, Try.ntmps60
    go_wp2_with (first | (at_builtin; refine wpList_append_own_at _ rfl _ _ 23 rfl w.heap.size 3 i0 _ 1 8 Try.underlying23 hi hz0 hz1 hz2 rfl (by decide) (.slice (some ⟨w.heap.size, 0, none⟩) 0 0) 0 [] rfl (World.ownsRow_made w #[] 0 (Nat.le_refl _) (by unfold maxLen; omega) rfl) a l.length ca (rowC intC l) rfl (rowC_length intC_len l) (cells_kept HN.out) (rowC_one intC_one l) (by unfold maxLen; omega) (by omega) (by simp) ?_; intro v1 w1 own1 grow1 _ _) | fail)
    go_ret
    simp only [Nat.zero_add, List.nil_append] at own1
    exact ⟨_, rfl, own1, ((Below.refl _ _).alloc (Nat.le_refl _) _).grown grow1 (by simp) (by simp [Value.ownBlock])⟩
theorem IntsIn.drop {w : World} {b o : Nat} {l : List Int} (h : IntsIn w (some ⟨b, o, none⟩) l) (k : Nat) : IntsIn w (some ⟨b, o + k, none⟩) (l.drop k) := fun j hj => by
  obtain ⟨b', off, e, hb, hc⟩ := h j (by simp at hj; omega)
  injection e with e
  injection e with e1 e2
  subst e1 e2
  refine ⟨b, o + k, rfl, hb, fun i hi => ?_⟩
  rw [List.getElem_drop]
  have := hc (k + i) (by simp at hi; omega)
  rwa [show o + k + i = o + (k + i) by omega]
theorem IntsIn.take {w : World} {A : Option Addr} {l : List Int} (h : IntsIn w A l) (k : Nat) : IntsIn w A (l.take k) := fun j hj => by
  obtain ⟨b, off, e, hb, hc⟩ := h j (by simp at hj; omega)
  refine ⟨b, off, e, hb, fun i hi => ?_⟩
  rw [List.getElem_take]
  exact hc i (by simp at hi; omega)
/-- a slice that reads as these numbers -/
def Sl (w : World) (A : Option Addr) (n c : Nat) (l : List Int) : Prop := l.length = n ∧ (A = none → c = 0 ∧ l = []) ∧ IntsIn w A l
theorem ints_nil (w : World) (A : Option Addr) : IntsIn w A [] := fun j hj => by simp at hj
theorem Sl.drop {w : World} {A : Option Addr} {n c : Nat} {l : List Int} (h : Sl w A n c l) (k : Nat) : Sl w (Option.map (fun x => x.add k) A) (n - k) (c - k) (l.drop k) := by
  obtain ⟨rfl, h2, h3⟩ := h
  refine ⟨by simp, ?_, ?_⟩
  · intro e
    cases A with
    | none => have := h2 rfl; rw [this.1, this.2]; simp
    | some a => simp at e
  · cases A with
    | none => have := h2 rfl; rw [this.2]; simp; exact ints_nil _ _
    | some a =>
      intro j hj
      obtain ⟨b, off, e, hb, hc⟩ := h3 0 (by simp at hj; omega)
      injection e with e
      subst e
      have := IntsIn.drop h3 k j hj
      simpa [Go.WideShapes.add_plain] using this
theorem Sl.empty {w : World} {A : Option Addr} {n c : Nat} {l : List Int} (h : Sl w A n c l) (k : Nat) (hk : n ≤ k) : Sl w A (n - k) 0 (l.drop k) := by
  obtain ⟨rfl, h2, h3⟩ := h
  rw [List.drop_eq_nil_of_le hk]
  exact ⟨by simp; omega, fun _ => ⟨rfl, rfl⟩, ints_nil _ _⟩
theorem Sl.take {w : World} {A : Option Addr} {n c : Nat} {l : List Int} (h : Sl w A n c l) (k : Nat) (hk : k ≤ n) : Sl w A k c (l.take k) := by
  obtain ⟨rfl, h2, h3⟩ := h
  refine ⟨by simp; omega, fun e => ?_, h3.take k⟩
  have := h2 e
  rw [this.1, this.2]; simp
theorem clone_sl {A : Option Addr} {n ca : Nat} {l : List Int} {w : World} (h : Sl w A n ca l) (la : l.length ≤ 1000000) : Calls Try.prog 60 #[.slice A n ca] w (Got w l) := by
  obtain ⟨rfl, h2, h3⟩ := h
  exact clone_int A ca l w la h2 h3
theorem sl_nil {w : World} {A : Option Addr} {n ca : Nat} {l : List Int} (h : Sl w A n ca l) (k : Nat) : Sl w (Option.map (fun x => x.add k) A) 0 (ca - k) [] :=
  ⟨rfl, fun e => by
    cases A with
    | none => have := h.2.1 rfl; exact ⟨by rw [this.1]; simp, rfl⟩
    | some a => simp at e, ints_nil _ _⟩
theorem cutL_len (l : List Int) (off lim : Int) : (cutL l off lim).length ≤ l.length := by
  unfold cutL; split <;> simp <;> omega
set_option maxHeartbeats 2000000 in
theorem cut_any (A : Option Addr) (ca n : Nat) (l : List Int) (off lim : Int) (w : World) (la : n ≤ 1000000) (lc : n ≤ ca) (lc2 : ca ≤ 9223372036854775807) (ha : Sl w A n ca l) :
    Calls Try.prog 19 #[.slice A n ca, .int .i64 off, .int .i64 lim] w (Got w (cutL l off lim)) := by
  have hlen := Lib.hid ha.1
  have CL := Lib.hid (fun A' n' c' (h : Sl w A' n' c' (cutL l off lim)) => clone_sl h (by have := cutL_len l off lim; have := hlen.out; omega))
  have HA := Lib.hid ha
  clear ha
  rcases (show off < 0 ∨ (∃ k : Nat, off = k ∧ k < n) ∨ off = n ∨ (∃ k : Nat, off = k ∧ n < k) by
    rcases Int.lt_or_le off 0 with h | h
    · exact .inl h
    · obtain ⟨k, rfl⟩ := Int.eq_ofNat_of_zero_le h
      rcases Nat.lt_trichotomy k n with h2 | h2 | h2
      · exact .inr (.inl ⟨k, rfl, h2⟩)
      · exact .inr (.inr (.inl (by rw [h2])))
      · exact .inr (.inr (.inr ⟨k, rfl, h2⟩))) with q | ⟨k, rfl, q2⟩ | rfl | ⟨k, rfl, q2⟩
  all_goals
    rcases (show lim < 0 ∨ (∃ m : Nat, lim = m) by
      rcases Int.lt_or_le lim 0 with h | h
      · exact .inl h
      · exact .inr (Int.eq_ofNat_of_zero_le h)) with r | ⟨m, rfl⟩
  · have e := Lib.hid (show cutL l off lim = l by unfold cutL; rw [if_neg (by omega), show off.toNat = 0 by omega, List.drop_zero])
    go_enter Try.func19, Try.ntmps19
    go_wp2_with fail
    refine (CL.out _ _ _ (by rw [e.out]; exact HA.out)).mono ?_
    rintro e1 w1 ⟨v1, rfl, o1, b1⟩; go_wp2; go_ret; exact ⟨_, rfl, o1, b1⟩
  · have e := Lib.hid (show cutL l off m = l.take m by unfold cutL; rw [if_pos (by omega), show off.toNat = 0 by omega, List.drop_zero, Int.toNat_natCast])
    go_enter Try.func19, Try.ntmps19
    go_wp2_with fail
    · refine (CL.out _ _ _ (by rw [e.out, List.take_of_length_le (by rw [hlen.out]; omega)]; exact HA.out)).mono ?_
      rintro e1 w1 ⟨v1, rfl, o1, b1⟩; go_wp2; go_ret; exact ⟨_, rfl, o1, b1⟩
    · refine (CL.out _ _ _ (by rw [e.out]; exact HA.out.take m (by omega))).mono ?_
      rintro e1 w1 ⟨v1, rfl, o1, b1⟩; go_wp2; go_ret; exact ⟨_, rfl, o1, b1⟩
  · have e := Lib.hid (show cutL l k lim = l.drop k by unfold cutL; rw [if_neg (by omega), Int.toNat_natCast])
    go_enter Try.func19, Try.ntmps19
    go_wp2_with fail
    refine (CL.out _ _ _ (by rw [e.out]; exact HA.out.drop k)).mono ?_
    rintro e1 w1 ⟨v1, rfl, o1, b1⟩; go_wp2; go_ret; exact ⟨_, rfl, o1, b1⟩
  · have e := Lib.hid (show cutL l k m = (l.drop k).take m by unfold cutL; rw [if_pos (by omega), Int.toNat_natCast, Int.toNat_natCast])
    go_enter Try.func19, Try.ntmps19
    go_wp2_with fail
    · refine (CL.out _ _ _ (by rw [e.out, List.take_of_length_le (by rw [List.length_drop, hlen.out]; omega)]; exact HA.out.drop k)).mono ?_
      rintro e1 w1 ⟨v1, rfl, o1, b1⟩; go_wp2; go_ret; exact ⟨_, rfl, o1, b1⟩
    · refine (CL.out _ _ _ (by rw [e.out]; exact (HA.out.drop k).take m (by omega))).mono ?_
      rintro e1 w1 ⟨v1, rfl, o1, b1⟩; go_wp2; go_ret; exact ⟨_, rfl, o1, b1⟩
  · have e := Lib.hid (show cutL l n lim = [] by unfold cutL; rw [if_neg (by omega), Int.toNat_natCast, List.drop_eq_nil_of_le (by rw [hlen.out]; omega)])
    by_cases hc : ca = n
    all_goals
      go_enter Try.func19, Try.ntmps19
      go_wp2_with fail
      refine (CL.out _ _ _ (by rw [e.out]; first | exact ⟨rfl, fun _ => ⟨rfl, rfl⟩, ints_nil _ _⟩ | exact sl_nil HA.out _)).mono ?_
      rintro e1 w1 ⟨v1, rfl, o1, b1⟩; go_wp2; go_ret; exact ⟨_, rfl, o1, b1⟩
  · have e := Lib.hid (show cutL l n m = [] by unfold cutL; rw [if_pos (by omega), Int.toNat_natCast, List.drop_eq_nil_of_le (by rw [hlen.out]; omega), List.take_nil])
    by_cases hc : ca = n
    all_goals
      by_cases hm : m = 0
      all_goals
        go_enter Try.func19, Try.ntmps19
        go_wp2_with fail
        refine (CL.out _ _ _ (by rw [e.out]; first | exact ⟨rfl, fun _ => ⟨rfl, rfl⟩, ints_nil _ _⟩ | exact ⟨by omega, fun _ => ⟨rfl, rfl⟩, ints_nil _ _⟩ | exact sl_nil HA.out _)).mono ?_
        rintro e1 w1 ⟨v1, rfl, o1, b1⟩; go_wp2; go_ret; exact ⟨_, rfl, o1, b1⟩
  · have e := Lib.hid (show cutL l k lim = [] by unfold cutL; rw [if_neg (by omega), Int.toNat_natCast, List.drop_eq_nil_of_le (by rw [hlen.out]; omega)])
    by_cases hc : ca = n
    all_goals
      go_enter Try.func19, Try.ntmps19
      go_wp2_with fail
      refine (CL.out _ _ _ (by rw [e.out]; first | exact ⟨rfl, fun _ => ⟨rfl, rfl⟩, ints_nil _ _⟩ | exact sl_nil HA.out _)).mono ?_
      rintro e1 w1 ⟨v1, rfl, o1, b1⟩; go_wp2; go_ret; exact ⟨_, rfl, o1, b1⟩
  · have e := Lib.hid (show cutL l k m = [] by unfold cutL; rw [if_pos (by omega), Int.toNat_natCast, List.drop_eq_nil_of_le (by rw [hlen.out]; omega), List.take_nil])
    by_cases hc : ca = n
    all_goals
      by_cases hm : m = 0
      all_goals
        go_enter Try.func19, Try.ntmps19
        go_wp2_with fail
        refine (CL.out _ _ _ (by rw [e.out]; first | exact ⟨rfl, fun _ => ⟨rfl, rfl⟩, ints_nil _ _⟩ | exact ⟨by omega, fun _ => ⟨rfl, rfl⟩, ints_nil _ _⟩ | exact sl_nil HA.out _)).mono ?_
        rintro e1 w1 ⟨v1, rfl, o1, b1⟩; go_wp2; go_ret; exact ⟨_, rfl, o1, b1⟩
end Go.Proofs.Ythmnaocoogfidaa
