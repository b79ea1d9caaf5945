/- Rows that a call made itself, of whatever structs: their cells. -/
import Derived.Test.YtijegkiapbmekaaCopy
import Derived.OneCell
set_option maxRecDepth 100000
set_option linter.unusedVariables false
set_option linter.unusedSimpArgs false
namespace Go.Proofs.Ytijegkiapbmekaa
open Go.RowKit
attribute [local go_sem] run_frombits run_tobits more_more more_drew more_drewN more_size more_cell more_frozen run_store_float lt_c1 le_c1 lt_s1 le_s1 lt_c2 le_c2 lt_s2 le_s2 lt_c3 le_c3 lt_s3 le_s3 lt_c4 le_c4 lt_s4 le_s4 lt_c5 le_c5 lt_s5 le_s5 lt_c6 le_c6 lt_s6 le_s6 lt_c7 le_c7 lt_s7 le_s7 lt_c8 le_c8 lt_s8 le_s8 lt_c9 le_c9 lt_s9 le_s9 lt_c10 le_c10 lt_s10 le_s10 lt_c11 le_c11 lt_s11 le_s11 lt_c12 le_c12 lt_s12 le_s12 le_c0

section
variable {α : Type} {c : α → List Value} {s : Nat}
/-- the cells of a row of structs -/
def rowC (c : α → List Value) (l : List α) : List Value := l.flatMap c
theorem rowC_length (hc : ∀ a, (c a).length = s) (l : List α) : (rowC c l).length = l.length * s := by
  induction l with
  | nil => simp [rowC]
  | cons a l ih => unfold rowC at *; rw [List.flatMap_cons, List.length_append, ih, hc, List.length_cons, Nat.add_mul]; omega
theorem rowC_append (l m : List α) : rowC c (l ++ m) = rowC c l ++ rowC c m := by unfold rowC; rw [List.flatMap_append]
theorem rowC_single (a : α) : rowC c [a] = c a := by unfold rowC; simp
theorem rowC_one (h1 : ∀ a, ∀ u ∈ c a, u.oneCell' = true) (l : List α) : ∀ u ∈ rowC c l, u.oneCell' = true := by
  intro u hu
  unfold rowC at hu
  rw [List.mem_flatMap] at hu
  obtain ⟨a, _, h⟩ := hu
  exact h1 a u h
theorem rowC_get (hc : ∀ a, (c a).length = s) : ∀ (l : List α) (i j : Nat) (h : i < l.length), j < s → (rowC c l)[i * s + j]? = (c l[i])[j]?
  | [], i, j, h, _ => by simp at h
  | a :: l, 0, j, h, hj => by
    unfold rowC
    rw [List.flatMap_cons, Nat.zero_mul, Nat.zero_add, List.getElem?_append_left (by rw [hc]; exact hj)]; rfl
  | a :: l, i + 1, j, h, hj => by
    have := rowC_get hc l i j (by simpa using h) hj
    unfold rowC at *
    rw [List.flatMap_cons, Nat.add_mul, List.getElem?_append_right (by rw [hc]; omega), hc, show i * s + 1 * s + j - s = i * s + j by omega, this]; rfl
theorem rowC_set (hc : ∀ a, (c a).length = s) : ∀ (l : List α) (i j : Nat) (a : α) (u : Value), i < l.length → j < s → (∀ k, k < s → k ≠ j → (c a)[k]? = (l[i]?.bind fun b => (c b)[k]?)) → (c a)[j]? = some u → (rowC c l).set (i * s + j) u = rowC c (l.set i a)
  | [], i, j, a, u, h, _, _, _ => by simp at h
  | b :: l, 0, j, a, u, h, hj, hk, hu => by
    unfold rowC
    rw [List.flatMap_cons, List.set_cons_zero, List.flatMap_cons, Nat.zero_mul, Nat.zero_add, List.set_append_left _ _ (by rw [hc]; exact hj)]
    congr 1
    apply List.ext_getElem?
    intro k
    rw [List.getElem?_set]
    by_cases h1 : j = k
    · subst h1; rw [if_pos rfl, if_pos (by rw [hc]; exact hj), hu]
    · rw [if_neg h1]
      by_cases h2 : k < s
      · have := hk k h2 (Ne.symm h1)
        simpa using this.symm
      · rw [List.getElem?_eq_none (by rw [hc]; omega), List.getElem?_eq_none (by rw [hc]; omega)]
  | b :: l, i + 1, j, a, u, h, hj, hk, hu => by
    have := rowC_set hc l i j a u (by simpa using h) hj (by simpa using hk) hu
    unfold rowC at *
    rw [List.flatMap_cons, List.set_cons_succ, List.flatMap_cons, Nat.add_mul, List.set_append_right _ _ (by rw [hc]; omega), hc, show i * s + 1 * s + j - s = i * s + j by omega, this]
end

/-- the cells of a block that was just made -/
theorem cells_at (w : World) (l : List Value) (t : TypeId) {g : Nat} (hg : g = w.heap.size) : ∀ j u, l[j]? = some u → (w.alloc (.cells l.toArray t)).cell? (Addr.add ⟨g, 0, none⟩ j) = some u := by
  intro j u h
  rw [Go.WideShapes.add_plain, Nat.zero_add, World.cell?_alloc_at _ _ _ _ hg]
  simpa using h
/-- a row that is owned, opened -/
theorem own_open {w : World} {base : Nat} {e : TypeId} {s : Nat} {v : Value} {n : Nat} {xs : List Value} (h : w.ownsRow base e s v n xs) :
    ∃ A cap, v = .slice A n cap ∧ n ≤ cap ∧ cap ≤ 9223372036854775807 ∧ (A = none → cap = 0) ∧ (0 < n → ∃ g, A = some ⟨g, 0, none⟩ ∧ base ≤ g ∧ g < w.heap.size ∧ ∀ j u, xs[j]? = some u → w.cell? ⟨g, j, none⟩ = some u) := by
  rcases h with ⟨hlen, ⟨hv, h0⟩ | ⟨g, cap, cur, hv, hge, hblk, hnc, hcm, hcs, htake⟩⟩
  · exact ⟨none, 0, by rw [hv, h0], by omega, by omega, fun _ => rfl, fun hn => by omega⟩
  · refine ⟨some ⟨g, 0, none⟩, cap, hv, hnc, hcm, (fun h => by cases h), fun hn => ⟨g, rfl, hge, ?_, ?_⟩⟩
    · exact (Array.getElem?_eq_some_iff.1 hblk).1
    · intro j u hu
      have e1 : w.cell? ⟨g, 0 + j, none⟩ = cur[0 + j]? := cell_of_row w g (0 + j) cur _ (0, 0) hblk
      rw [Nat.zero_add] at e1
      rw [e1, ← Array.getElem?_toList]
      have hj2 : j < n * s := by
        rcases Nat.lt_or_ge j xs.length with q | q
        · omega
        · rw [List.getElem?_eq_none q] at hu; cases hu
      have e2 : (cur.toList.take (n * s))[j]? = cur.toList[j]? := List.getElem?_take_of_lt hj2
      rw [← e2, htake, hu]
/-- a function of Go text is entered -/
theorem enters {P : Program} {f : FuncId} {fn : Func} {c : Code} (hf : P.funcs[f]? = some fn) (hname : (fn.name == "runtime.NumGoroutine") = false) (hb : fn.body = some c) :
    ∀ (args : Array Value) (w : World), (callFunc f args).run P w = .ok (.enter f args) w := by
  intro args w
  have h1 : fn.name ≠ "runtime.NumGoroutine" := by simpa using hname
  simp [callFunc, hf, h1, hb, mark]
/-- a row of structs lies at this place -/
def RowIn {α : Type} (c : α → List Value) (s : Nat) (w : World) (A : Option Addr) (l : List α) : Prop :=
  ∀ j (h : j < l.length), ∃ b off, A = some ⟨b, off, none⟩ ∧ b < w.heap.size ∧ ∀ j (h : j < l.length) t u, (c l[j])[t]? = some u → w.cell? ⟨b, off + j * s + t, none⟩ = some u
section
variable {α : Type} {c : α → List Value} {s : Nat} {w w' : World} {A : Option Addr} {l : List α}
theorem RowIn.below (h : RowIn c s w A l) (hb : Below w.heap.size w w') : RowIn c s w' A l := fun j hj => by
  obtain ⟨b, off, e, hlt, hc⟩ := h j hj
  exact ⟨b, off, e, Nat.lt_of_lt_of_le hlt hb.size, fun i hi t u hu => (hb.cell (p := ⟨b, _, none⟩) hlt).trans (hc i hi t u hu)⟩
theorem RowIn.more (h : RowIn c s w A l) (x : Ext) : RowIn c s (more w x) A l := h.below (more_below w x)
theorem RowIn.take (h : RowIn c s w A l) (k : Nat) : RowIn c s w A (l.take k) := fun j hj => by
  obtain ⟨b, off, e, hb, hc⟩ := h j (by simp at hj; omega)
  refine ⟨b, off, e, hb, fun i hi => ?_⟩
  rw [List.getElem_take]
  exact hc i (by simp at hi; omega)
theorem RowIn.drop {b o : Nat} (h : RowIn c s w (some ⟨b, o, none⟩) l) (k : Nat) : RowIn c s w (some ⟨b, o + k * s, none⟩) (l.drop k) := fun j hj => by
  obtain ⟨b', off, e, hb, hc⟩ := h j (by simp at hj; omega)
  injection e with e
  injection e with e1 e2
  subst e1 e2
  refine ⟨b, o + k * s, rfl, hb, fun i hi t u hu => ?_⟩
  rw [List.getElem_drop] at hu
  have := hc (k + i) (by simp at hi; omega) t u hu
  rwa [show o + k * s + i * s + t = o + (k + i) * s + t by rw [Nat.add_mul]; omega]
theorem RowIn.nil : RowIn c s w A [] := fun j hj => by simp at hj
theorem rowIn_own {base : Nat} {e : TypeId} {v : Value} {n : Nat} (hc : ∀ a, (c a).length = s) (hn : l.length = n) (h : w.ownsRow base e s v n (rowC c l)) :
    ∃ A cap, v = .slice A n cap ∧ n ≤ cap ∧ cap ≤ 9223372036854775807 ∧ (A = none → cap = 0) ∧ RowIn c s w A l := by
  subst hn
  obtain ⟨A, cap, rfl, h1, h2, h3, h4⟩ := own_open h
  refine ⟨A, cap, rfl, h1, h2, h3, fun j hj => ?_⟩
  obtain ⟨g, rfl, hg1, hg2, hcc⟩ := h4 (by omega)
  refine ⟨g, 0, rfl, hg2, fun i hi t u hu => ?_⟩
  have ht : t < s := by
    rcases Nat.lt_or_ge t s with q | q
    · exact q
    · rw [List.getElem?_eq_none (by rw [hc]; exact q)] at hu; cases hu
  have := hcc (i * s + t) u (by rw [rowC_get hc l i t hi ht]; exact hu)
  rwa [show 0 + i * s + t = i * s + t by omega]
end
/-- a block with these cells -/
def Blk (w : World) (g : Nat) (c : Array Value) (t : TypeId) : Prop := w.heap[g]? = some (.cells c t (0, 0))
theorem Blk.lt {w : World} {g : Nat} {c : Array Value} {t : TypeId} (h : Blk w g c t) : g < w.heap.size := (Array.getElem?_eq_some_iff.1 h).1
theorem Blk.cell {w : World} {g : Nat} {c : Array Value} {t : TypeId} (h : Blk w g c t) (j : Nat) : w.cell? ⟨g, j, none⟩ = c[j]? := cell_of_row w g j c t (0, 0) h
theorem Blk.free {w : World} {g : Nat} {c : Array Value} {t : TypeId} (h : Blk w g c t) (j : Nat) : w.frozen? ⟨g, j, none⟩ = false := by
  unfold Blk at h
  unfold World.frozen?
  simp [h]
theorem Blk.below {w w' : World} {g : Nat} {c : Array Value} {t : TypeId} {B : Nat} (h : Blk w g c t) (hb : Below B w w') (hg : g < B) : Blk w' g c t := (hb.block g hg).trans h
theorem Blk.more {w : World} {g : Nat} {c : Array Value} {t : TypeId} (h : Blk w g c t) (x : Ext) : Blk (more w x) g c t := (more_block w x h.lt).trans h
theorem Blk.alloc {w : World} {g : Nat} {c : Array Value} {t : TypeId} (h : Blk w g c t) (o : Obj) : Blk (w.alloc o) g c t := (Below.heap_alloc w o g h.lt).trans h
theorem Blk.grown {w w' : World} {g : Nat} {c : Array Value} {t : TypeId} {row : Option Nat} (h : Blk w g c t) (hg : w.grownBy w' row) (hr : some g ≠ row) : Blk w' g c t := (hg.block g h.lt hr).trans h
theorem Blk.new (w : World) (c : Array Value) (t : TypeId) {g : Nat} (hg : g = w.heap.size) : Blk (w.alloc (.cells c t)) g c t := by subst hg; exact heap_alloc_new w _
theorem Blk.set {w : World} {g : Nat} {c : Array Value} {t : TypeId} (h : Blk w g c t) (j : Nat) (u : Value) : Blk (w.setCell ⟨g, j, none⟩ u) g (c.setIfInBounds j u) t := by
  unfold Blk at *
  simp only [World.setCell, Array.getElem?_modify, h]
  simp
theorem Blk.set_other {w : World} {g : Nat} {c : Array Value} {t : TypeId} (h : Blk w g c t) {a : Addr} (ha : a.block ≠ g) (u : Value) : Blk (w.setCell a u) g c t := (Below.heap_setCell w a u g (Ne.symm ha)).trans h
end Go.Proofs.Ytijegkiapbmekaa
