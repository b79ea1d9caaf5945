/- Rows of values that a call made itself: what is appended to, and copied. -/
import Derived.Test.YtijegkiapbmekaaVal3
import Derived.Test.YtijegkiapbmekaaKinds
import Derived.Maps.AppendAt
import Derived.Laws.AppendOwnNone
set_option maxRecDepth 100000
set_option linter.unusedVariables false
set_option linter.unusedSimpArgs false
namespace Go.Proofs.Ytijegkiapbmekaa
open Go.RowKit
attribute [local go_sem] run_frombits run_tobits more_more more_drew more_drewN more_size more_cell more_frozen run_store_float lt_c1 le_c1 lt_s1 le_s1 lt_c2 le_c2 lt_s2 le_s2 lt_c3 le_c3 lt_s3 le_s3 lt_c4 le_c4 lt_s4 le_s4 lt_c5 le_c5 lt_s5 le_s5 lt_c6 le_c6 lt_s6 le_s6 lt_c7 le_c7 lt_s7 le_s7 lt_c8 le_c8 lt_s8 le_s8 lt_c9 le_c9 lt_s9 le_s9 lt_c10 le_c10 lt_s10 le_s10 lt_c11 le_c11 lt_s11 le_s11 lt_c12 le_c12 lt_s12 le_s12 le_c0 run_cmpstring

def Val.cells (a : Val) : List Value := [.int .i64 a.k, .int .i64 a.i, .string a.s, .float .f64 a.f]
def cellsOf (l : List Val) : List Value := l.flatMap Val.cells
theorem cellsOf_length (l : List Val) : (cellsOf l).length = l.length * 4 := by
  induction l with
  | nil => rfl
  | cons a l ih => unfold cellsOf at *; rw [List.flatMap_cons, List.length_append, ih, List.length_cons]; show 4 + _ = _; omega
theorem cellsOf_append (l m : List Val) : cellsOf (l ++ m) = cellsOf l ++ cellsOf m := by unfold cellsOf; rw [List.flatMap_append]
theorem cellsOf_one (l : List Val) : ∀ u ∈ cellsOf l, u.oneCell' = true := by
  intro u hu
  unfold cellsOf at hu
  rw [List.mem_flatMap] at hu
  obtain ⟨a, _, h⟩ := hu
  unfold Val.cells at h
  simp at h
  rcases h with rfl | rfl | rfl | rfl <;> rfl
theorem vals_cells {w : World} {b : Nat} : ∀ (l : List Val) (off : Nat), (∀ i (h : i < l.length), ValAt w b (off + i * 4) l[i]) → ∀ j u, (cellsOf l)[j]? = some u → w.cell? ⟨b, off + j, none⟩ = some u
  | [], _, _, j, u, h => by simp [cellsOf] at h
  | a :: l, off, hv, j, u, h => by
    have e : cellsOf (a :: l) = a.cells ++ cellsOf l := by unfold cellsOf; rw [List.flatMap_cons]
    rw [e] at h
    obtain ⟨c0, c1, c2, c3⟩ := hv 0 (by simp)
    by_cases hj : j < 4
    · rw [List.getElem?_append_left (by exact hj)] at h
      match j, hj, h with
      | 0, _, h => injection h with h; subst h; simpa using c0
      | 1, _, h => injection h with h; subst h; simpa using c1
      | 2, _, h => injection h with h; subst h; simpa using c2
      | 3, _, h => injection h with h; subst h; simpa using c3
    · rw [List.getElem?_append_right (by show 4 ≤ j; omega)] at h
      have := vals_cells l (off + 4) (fun i hi => by
        have := hv (i + 1) (by simp; omega)
        rw [List.getElem_cons_succ] at this
        rwa [show off + 4 + i * 4 = off + (i + 1) * 4 by omega]) (j - 4) u h
      rwa [show off + 4 + (j - 4) = off + j by omega] at this
theorem cells_vals {w : World} {b : Nat} : ∀ (l : List Val) (off : Nat), (∀ j u, (cellsOf l)[j]? = some u → w.cell? ⟨b, off + j, none⟩ = some u) → ∀ i (h : i < l.length), ValAt w b (off + i * 4) l[i]
  | [], _, _, i, h => by simp at h
  | a :: l, off, hv, i, h => by
    have e : cellsOf (a :: l) = a.cells ++ cellsOf l := by unfold cellsOf; rw [List.flatMap_cons]
    rw [e] at hv
    match i, h with
    | 0, _ =>
      exact ⟨hv 0 _ rfl, hv 1 _ rfl, hv 2 _ rfl, hv 3 _ rfl⟩
    | i + 1, h =>
      rw [List.getElem_cons_succ, show off + (i + 1) * 4 = off + 4 + i * 4 by omega]
      exact cells_vals l (off + 4) (fun j u hu => by
        rw [show off + 4 + j = off + (4 + j) by omega]
        refine hv (4 + j) u ?_
        rw [List.getElem?_append_right (by show 4 ≤ 4 + j; omega)]
        rwa [show 4 + j - a.cells.length = j by show 4 + j - 4 = j; omega]) i (by simp at h; omega)

theorem own_more {w : World} {base : Nat} {e : TypeId} {size : Nat} {v : Value} {n : Nat} {xs : List Value} (h : w.ownsRow base e size v n xs) (x : Ext) : (more w x).ownsRow base e size v n xs :=
  h.kept (row := none) ⟨rfl, rfl, rfl, by rw [more_size]; omega, fun k hk _ => more_block w x hk⟩ (by cases hv : v.ownBlock with | none => exact .inl rfl | some g => exact .inr (by simp))
theorem own_below {w w' : World} {base : Nat} {e : TypeId} {size : Nat} {v : Value} {n : Nat} {xs : List Value} (h : w.ownsRow base e size v n xs) (hb : Below w.heap.size w w') : w'.ownsRow base e size v n xs := by
  obtain ⟨x, rfl⟩ := more_of_below hb
  exact own_more h x
/-- a row that is owned, as a slice of values -/
theorem own_vals {w : World} {base : Nat} {e : TypeId} {v : Value} {l : List Val} (h : w.ownsRow base e 4 v l.length (cellsOf l)) :
    ∃ A cap, v = .slice A l.length cap ∧ l.length ≤ cap ∧ cap ≤ 9223372036854775807 ∧ (A = none → cap = 0) ∧ ValsIn w A l := by
  rcases h with ⟨hlen, ⟨hv, h0⟩ | ⟨g, cap, cur, hv, hge, hblk, hnc, hcm, hcs, htake⟩⟩
  · have : l = [] := List.eq_nil_of_length_eq_zero h0
    subst this
    exact ⟨none, 0, hv, Nat.le_refl _, by omega, fun _ => rfl, fun j h => absurd h (by simp)⟩
  · refine ⟨some ⟨g, 0, none⟩, cap, hv, hnc, hcm, (fun h => by cases h), fun j hj => ⟨g, 0, rfl, ?_, ?_⟩⟩
    · rcases Nat.lt_or_ge g w.heap.size with q | q
      · exact q
      · rw [Array.getElem?_eq_none q] at hblk; cases hblk
    · refine cells_vals l 0 (fun j u hu => ?_)
      have e1 : w.cell? ⟨g, 0 + j, none⟩ = cur[0 + j]? := cell_of_row w g (0 + j) cur _ (0, 0) hblk
      rw [e1, Nat.zero_add, ← Array.getElem?_toList]
      have hj2 : j < l.length * 4 := by
        rcases Nat.lt_or_ge j (cellsOf l).length with q | q
        · rwa [cellsOf_length] at q
        · rw [List.getElem?_eq_none q] at hu; cases hu
      have e2 : (cur.toList.take (l.length * 4))[j]? = cur.toList[j]? := List.getElem?_take_of_lt hj2
      rw [← e2, htake, hu]
theorem own_vals_n {w : World} {base : Nat} {e : TypeId} {v : Value} {l : List Val} {n : Nat} (hn : l.length = n) (h : w.ownsRow base e 4 v n (cellsOf l)) :
    ∃ A cap, v = .slice A n cap ∧ n ≤ cap ∧ cap ≤ 9223372036854775807 ∧ (A = none → cap = 0) ∧ ValsIn w A l := by
  subst hn
  exact own_vals h
theorem own_ge {w : World} {base : Nat} {e : TypeId} {size : Nat} {v : Value} {n : Nat} {xs : List Value} (h : w.ownsRow base e size v n xs) : ∀ k, v.ownBlock = some k → base ≤ k := by
  rcases h with ⟨hlen, ⟨rfl, h0⟩ | ⟨g, cap, cur, rfl, hge, _⟩⟩
  · intro k hk; simp [Value.ownBlock] at hk
  · intro k hk; simp [Value.ownBlock] at hk; omega
theorem cells_alloc (w : World) (t : TypeId) (a : Val) {g : Nat} (hg : g = w.heap.size) : ∀ j u, a.cells[j]? = some u → (w.alloc (.cells #[.int .i64 a.k, .int .i64 a.i, .string a.s, .float .f64 a.f] t)).cell? (Addr.add ⟨g, 0, none⟩ j) = some u := by
  have hv := valAt_lit (c := #[.int .i64 a.k, .int .i64 a.i, .string a.s, .float .f64 a.f]) (t := t) (a := a) hg 0 rfl rfl rfl rfl
  intro j u h
  unfold Val.cells at h
  match j, h with
  | 0, h => injection h with h; subst h; exact hv.1
  | 1, h => injection h with h; subst h; exact hv.2.1
  | 2, h => injection h with h; subst h; exact hv.2.2.1
  | 3, h => injection h with h; subst h; exact hv.2.2.2
theorem cells_one (a : Val) : ∀ u ∈ a.cells, u.oneCell' = true := by
  intro u h
  unfold Val.cells at h
  simp at h
  rcases h with rfl | rfl | rfl | rfl <;> rfl
theorem info_val : (Try.prog.info? 32).map (fun i => (i.zero, i.size, i.bytes)) = some (some (.agg #[.int .i64 0, .int .i64 0, .string ⟨#[]⟩, .float .f64 0]), 4, 40) := by kernel_rfl

set_option maxHeartbeats 1000000 in
theorem copy_any (A : Option Addr) (ca : Nat) (l : List Val) (w : World) (la : l.length ≤ 1000000) (hA : A = none → ca = 0 ∧ l = []) (ha : ValsIn w A l) :
    Calls Try.prog 13 #[.slice A l.length ca] w fun e w' => ∃ v, e = .returned v ∧ w'.ownsRow w.heap.size 32 4 v l.length (cellsOf l) ∧ Below w.heap.size w w' := by
  obtain ⟨i0, hi, hz0, hz1, hz2⟩ := info_parts info_val
  cases A with
  | none =>
    obtain ⟨rfl, rfl⟩ := hA rfl
    go_enter Try.func13, Try.ntmps13
    go_wp2_with (at_builtin; refine wpList_append_own_none rfl _ _ 33 rfl w.heap.size 32 i0 4 Try.underlying33 hi (.slice none 0 0) 0 [] rfl (World.ownsRow_nil _ _ _ _) rfl ?_)
    go_ret
    exact ⟨_, rfl, World.ownsRow_nil _ _ _ _, Below.refl _ _⟩
  | some a =>
    have hn : ∀ j u, (cellsOf l)[j]? = some u → w.cell? (a.add j) = some u := by
      intro j u hu
      have hj : 0 < l.length := by
        rcases Nat.eq_zero_or_pos l.length with q | q
        · have : l = [] := List.eq_nil_of_length_eq_zero q
          subst this; simp [cellsOf] at hu
        · exact q
      obtain ⟨b, off, e, hb, hc⟩ := ha 0 hj
      injection e with e
      subst e
      rw [Go.WideShapes.add_plain]
      exact vals_cells l off hc j u hu
    have HN := Lib.hid hn; clear hn
    go_enter Try.func13, Try.ntmps13
    go_wp2_with (at_builtin; refine wpList_append_own_at _ rfl _ _ 33 rfl w.heap.size 32 i0 _ 4 40 Try.underlying33 hi hz0 hz1 hz2 rfl (by decide) (.slice none 0 0) 0 [] rfl (World.ownsRow_nil _ _ _ _) a l.length ca (cellsOf l) rfl (cellsOf_length l) HN.out (cellsOf_one l) (by unfold maxLen; omega) (by omega) (Nat.le_refl _) ?_; intro v1 w1 hown hgrow _ hat)
    go_ret
    simp only [Nat.zero_add, List.nil_append] at hown
    exact ⟨_, rfl, hown, (Below.refl _ _).grown hgrow (Nat.le_refl _) (by simp [Value.ownBlock])⟩
end Go.Proofs.Ytijegkiapbmekaa
