/- Rows that a call made itself, of whatever structs: their cells. -/
import Derived.Test.YthmnaocoogfidaaCopy
import Derived.OneCell
set_option maxRecDepth 100000
set_option linter.unusedVariables false
set_option linter.unusedSimpArgs false
namespace Go.Proofs.Ythmnaocoogfidaa
open Go.RowKit
attribute [local go_sem] run_frombits run_tobits more_more more_drew more_drewN more_size more_cell more_frozen run_store_float lt_c1 le_c1 lt_s1 le_s1 lt_c2 le_c2 lt_s2 le_s2 lt_c3 le_c3 lt_s3 le_s3 lt_c4 le_c4 lt_s4 le_s4 lt_c5 le_c5 lt_s5 le_s5 lt_c6 le_c6 lt_s6 le_s6 lt_c7 le_c7 lt_s7 le_s7 lt_c8 le_c8 lt_s8 le_s8 lt_c9 le_c9 lt_s9 le_s9 lt_c10 le_c10 lt_s10 le_s10 lt_c11 le_c11 lt_s11 le_s11 lt_c12 le_c12 lt_s12 le_s12 le_c0

section
variable {α : Type} {c : α → List Value} {s : Nat}
/-- the cells of a row of structs -/
def rowC (c : α → List Value) (l : List α) : List Value := l.flatMap c
theorem rowC_length (hc : ∀ a, (c a).length = s) (l : List α) : (rowC c l).length = l.length * s := by
  induction l with
  | nil => simp [rowC]
  | cons a l ih => unfold rowC at *; rw [List.flatMap_cons, List.length_append, ih, hc, List.length_cons, Nat.add_mul]; omega
theorem rowC_append (l m : List α) : rowC c (l ++ m) = rowC c l ++ rowC c m := by unfold rowC; rw [List.flatMap_append]
theorem rowC_single (a : α) : rowC c [a] = c a := by unfold rowC; simp
theorem rowC_one (h1 : ∀ a, ∀ u ∈ c a, u.oneCell' = true) (l : List α) : ∀ u ∈ rowC c l, u.oneCell' = true := by
  intro u hu
  unfold rowC at hu
  rw [List.mem_flatMap] at hu
  obtain ⟨a, _, h⟩ := hu
  exact h1 a u h
theorem rowC_get (hc : ∀ a, (c a).length = s) : ∀ (l : List α) (i j : Nat) (h : i < l.length), j < s → (rowC c l)[i * s + j]? = (c l[i])[j]?
  | [], i, j, h, _ => by simp at h
  | a :: l, 0, j, h, hj => by
    unfold rowC
    rw [List.flatMap_cons, Nat.zero_mul, Nat.zero_add, List.getElem?_append_left (by rw [hc]; exact hj)]; rfl
  | a :: l, i + 1, j, h, hj => by
    have := rowC_get hc l i j (by simpa using h) hj
    unfold rowC at *
    rw [List.flatMap_cons, Nat.add_mul, List.getElem?_append_right (by rw [hc]; omega), hc, show i * s + 1 * s + j - s = i * s + j by omega, this]; rfl
theorem rowC_set (hc : ∀ a, (c a).length = s) : ∀ (l : List α) (i j : Nat) (a : α) (u : Value), i < l.length → j < s → (∀ k, k < s → k ≠ j → (c a)[k]? = (l[i]?.bind fun b => (c b)[k]?)) → (c a)[j]? = some u → (rowC c l).set (i * s + j) u = rowC c (l.set i a)
  | [], i, j, a, u, h, _, _, _ => by simp at h
  | b :: l, 0, j, a, u, h, hj, hk, hu => by
    unfold rowC
    rw [List.flatMap_cons, List.set_cons_zero, List.flatMap_cons, Nat.zero_mul, Nat.zero_add, List.set_append_left _ _ (by rw [hc]; exact hj)]
    congr 1
    apply List.ext_getElem?
    intro k
    rw [List.getElem?_set]
    by_cases h1 : j = k
    · subst h1; rw [if_pos rfl, if_pos (by rw [hc]; exact hj), hu]
    · rw [if_neg h1]
      by_cases h2 : k < s
      · have := hk k h2 (Ne.symm h1)
        simpa using this.symm
      · rw [List.getElem?_eq_none (by rw [hc]; omega), List.getElem?_eq_none (by rw [hc]; omega)]
  | b :: l, i + 1, j, a, u, h, hj, hk, hu => by
    have := rowC_set hc l i j a u (by simpa using h) hj (by simpa using hk) hu
    unfold rowC at *
    rw [List.flatMap_cons, List.set_cons_succ, List.flatMap_cons, Nat.add_mul, List.set_append_right _ _ (by rw [hc]; omega), hc, show i * s + 1 * s + j - s = i * s + j by omega, this]
end

/-- the cells of a block that was just made -/
theorem cells_at (w : World) (l : List Value) (t : TypeId) {g : Nat} (hg : g = w.heap.size) : ∀ j u, l[j]? = some u → (w.alloc (.cells l.toArray t)).cell? (Addr.add ⟨g, 0, none⟩ j) = some u := by
  intro j u h
  rw [Go.WideShapes.add_plain, Nat.zero_add, World.cell?_alloc_at _ _ _ _ hg]
  simpa using h
/-- a row that is owned, opened -/
theorem own_open {w : World} {base : Nat} {e : TypeId} {s : Nat} {v : Value} {n : Nat} {xs : List Value} (h : w.ownsRow base e s v n xs) :
    ∃ A cap, v = .slice A n cap ∧ n ≤ cap ∧ cap ≤ 9223372036854775807 ∧ (A = none → cap = 0) ∧ (0 < n → ∃ g, A = some ⟨g, 0, none⟩ ∧ base ≤ g ∧ g < w.heap.size ∧ ∀ j u, xs[j]? = some u → w.cell? ⟨g, j, none⟩ = some u) := by
  rcases h with ⟨hlen, ⟨hv, h0⟩ | ⟨g, cap, cur, hv, hge, hblk, hnc, hcm, hcs, htake⟩⟩
  · exact ⟨none, 0, by rw [hv, h0], by omega, by omega, fun _ => rfl, fun hn => by omega⟩
  · refine ⟨some ⟨g, 0, none⟩, cap, hv, hnc, hcm, (fun h => by cases h), fun hn => ⟨g, rfl, hge, ?_, ?_⟩⟩
    · exact (Array.getElem?_eq_some_iff.1 hblk).1
    · intro j u hu
      have e1 : w.cell? ⟨g, 0 + j, none⟩ = cur[0 + j]? := cell_of_row w g (0 + j) cur _ (0, 0) hblk
      rw [Nat.zero_add] at e1
      rw [e1, ← Array.getElem?_toList]
      have hj2 : j < n * s := by
        rcases Nat.lt_or_ge j xs.length with q | q
        · omega
        · rw [List.getElem?_eq_none q] at hu; cases hu
      have e2 : (cur.toList.take (n * s))[j]? = cur.toList[j]? := List.getElem?_take_of_lt hj2
      rw [← e2, htake, hu]
/-- a block with these cells -/
def Blk (w : World) (g : Nat) (c : Array Value) (t : TypeId) : Prop := w.heap[g]? = some (.cells c t (0, 0))
theorem Blk.lt {w : World} {g : Nat} {c : Array Value} {t : TypeId} (h : Blk w g c t) : g < w.heap.size := (Array.getElem?_eq_some_iff.1 h).1
theorem Blk.cell {w : World} {g : Nat} {c : Array Value} {t : TypeId} (h : Blk w g c t) (j : Nat) : w.cell? ⟨g, j, none⟩ = c[j]? := cell_of_row w g j c t (0, 0) h
theorem Blk.free {w : World} {g : Nat} {c : Array Value} {t : TypeId} (h : Blk w g c t) (j : Nat) : w.frozen? ⟨g, j, none⟩ = false := by
  unfold Blk at h
  unfold World.frozen?
  simp [h]
theorem Blk.below {w w' : World} {g : Nat} {c : Array Value} {t : TypeId} {B : Nat} (h : Blk w g c t) (hb : Below B w w') (hg : g < B) : Blk w' g c t := (hb.block g hg).trans h
theorem Blk.more {w : World} {g : Nat} {c : Array Value} {t : TypeId} (h : Blk w g c t) (x : Ext) : Blk (more w x) g c t := (more_block w x h.lt).trans h
theorem Blk.alloc {w : World} {g : Nat} {c : Array Value} {t : TypeId} (h : Blk w g c t) (o : Obj) : Blk (w.alloc o) g c t := (Below.heap_alloc w o g h.lt).trans h
theorem Blk.grown {w w' : World} {g : Nat} {c : Array Value} {t : TypeId} {row : Option Nat} (h : Blk w g c t) (hg : w.grownBy w' row) (hr : some g ≠ row) : Blk w' g c t := (hg.block g h.lt hr).trans h
theorem Blk.new (w : World) (c : Array Value) (t : TypeId) {g : Nat} (hg : g = w.heap.size) : Blk (w.alloc (.cells c t)) g c t := by subst hg; exact heap_alloc_new w _
theorem Blk.set {w : World} {g : Nat} {c : Array Value} {t : TypeId} (h : Blk w g c t) (j : Nat) (u : Value) : Blk (w.setCell ⟨g, j, none⟩ u) g (c.setIfInBounds j u) t := by
  unfold Blk at *
  simp only [World.setCell, Array.getElem?_modify, h]
  simp
theorem Blk.set_other {w : World} {g : Nat} {c : Array Value} {t : TypeId} (h : Blk w g c t) {a : Addr} (ha : a.block ≠ g) (u : Value) : Blk (w.setCell a u) g c t := (Below.heap_setCell w a u g (Ne.symm ha)).trans h
end Go.Proofs.Ythmnaocoogfidaa
