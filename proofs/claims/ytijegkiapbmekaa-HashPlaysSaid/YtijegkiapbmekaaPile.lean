/- Piles, of whatever elements: their state, and what writing into their rows makes of it. -/
import Derived.Test.YtijegkiapbmekaaHeapD
set_option maxRecDepth 100000
set_option linter.unusedVariables false
set_option linter.unusedSimpArgs false
namespace Go.Proofs.Ytijegkiapbmekaa
open Go.RowKit
attribute [local go_sem] run_frombits run_tobits more_more more_drew more_drewN more_size more_cell more_frozen run_store_float lt_c1 le_c1 lt_s1 le_s1 lt_c2 le_c2 lt_s2 le_s2 lt_c3 le_c3 lt_s3 le_s3 lt_c4 le_c4 lt_s4 le_s4 lt_c5 le_c5 lt_s5 le_s5 lt_c6 le_c6 lt_s6 le_s6 lt_c7 le_c7 lt_s7 le_s7 lt_c8 le_c8 lt_s8 le_s8 lt_c9 le_c9 lt_s9 le_s9 lt_c10 le_c10 lt_s10 le_s10 lt_c11 le_c11 lt_s11 le_s11 lt_c12 le_c12 lt_s12 le_s12 le_c0

/-- an element of a list, and where it stands -/
structure It (α : Type) where
  v : α
  li : Int
  at_ : Int
/-- blocks that are as they were -/
def Holding (K : List (Nat × Obj)) (w : World) : Prop := ∀ b o, (b, o) ∈ K → w.heap[b]? = some o
theorem Holding.more {K : List (Nat × Obj)} {w : World} (h : Holding K w) (x : Ext) : Holding K (more w x) := fun b o hm => by
  have := h b o hm
  rw [more_block w x (Array.getElem?_eq_some_iff.1 this).1]; exact this
/-- a pile: its struct at p, its row; blocks K that its order leans on -/
def PileS {α : Type} (c : α → List Value) (s : Nat) (eT pT : TypeId) (fv : Value) (p : Nat) (K : List (Nat × Obj)) (w : World) (a : Option Nat) (l : List α) : Prop :=
  l.length ≤ 1000000 ∧ a ≠ some p ∧ (∃ v, Blk w p #[v, fv] pT ∧ v.ownBlock = a ∧ w.ownsRow 0 eT s v l.length (rowC c l)) ∧ (∀ b o, (b, o) ∈ K → w.heap[b]? = some o ∧ b ≠ p ∧ some b ≠ a)
section
variable {α : Type} {c : α → List Value} {s : Nat} {eT pT : TypeId} {fv : Value} {p : Nat} {K : List (Nat × Obj)} {w w' : World} {a : Option Nat} {l l' : List α} {x : α}
theorem PileS.holding (h : PileS c s eT pT fv p K w a l) : Holding K w := fun b o hm => (h.2.2.2 b o hm).1
theorem PileS.more (h : PileS c s eT pT fv p K w a l) (x : Ext) : PileS c s eT pT fv p K (more w x) a l := by
  obtain ⟨h1, h2, ⟨v, h3, h4, h5⟩, h6⟩ := h
  exact ⟨h1, h2, ⟨v, h3.more x, h4, own_more h5 x⟩, fun b o hm => ⟨Holding.more (fun b o hm => (h6 b o hm).1) x b o hm, (h6 b o hm).2⟩⟩
theorem PileS.drew (h : PileS c s eT pT fv p K w a l) : PileS c s eT pT fv p K w.drew a l := by rw [drew_is]; exact h.more _
theorem Keeps.drew {q : Nat} (h : Keeps q a w w') : Keeps q a w w'.drew := ⟨h.os, h.tape, h.output, h.size, h.block⟩
/-- what a row has at a place -/
theorem own_free {base : Nat} {e : TypeId} {v : Value} {n : Nat} {xs : List Value} (h : w.ownsRow base e s v n xs) {g : Nat} (hg : v.ownBlock = some g) (o : Nat) : w.frozen? ⟨g, o, none⟩ = false := by
  rcases h.2 with ⟨rfl, _⟩ | ⟨g', cap, cur, rfl, _, hgg, _⟩
  · simp [Value.ownBlock] at hg
  · simp [Value.ownBlock] at hg
    subst hg
    exact Blk.free (c := cur) (t := e) hgg o
theorem own_set {base : Nat} {e : TypeId} {v : Value} {n : Nat} {xs : List Value} (h : w.ownsRow base e s v n xs) {g : Nat} (hg : v.ownBlock = some g) (k : Nat) (hk : k < n * s) (u : Value) : (w.setCell ⟨g, k, none⟩ u).ownsRow base e s v n (xs.set k u) := by
  obtain ⟨h1, h2⟩ := h
  refine ⟨by rw [List.length_set]; exact h1, ?_⟩
  rcases h2 with ⟨rfl, h0⟩ | ⟨g', cap, cur, rfl, hb, hgg, hn, hm, hs, ht⟩
  · simp [Value.ownBlock] at hg
  · simp [Value.ownBlock] at hg
    subst hg
    refine .inr ⟨g', cap, cur.setIfInBounds k u, rfl, hb, Blk.set (c := cur) (t := e) hgg k u, hn, hm, by rw [Array.size_setIfInBounds]; exact hs, ?_⟩
    rw [Array.toList_setIfInBounds, ← ht]
    apply List.ext_getElem?
    intro j
    simp only [List.getElem?_take, List.getElem?_set, List.length_take]
    by_cases h1 : k = j
    · subst h1
      rw [if_pos hk, if_pos rfl, if_pos rfl]
      have hsz : n * s ≤ cap * s := Nat.mul_le_mul_right _ hn
      rw [if_pos (by rw [Array.length_toList, hs]; omega), if_pos (by rw [Array.length_toList, hs]; omega)]
    · rw [if_neg h1, if_neg h1]
def puts (w : World) (g : Nat) : List (Nat × Value) → World
  | [] => w
  | (k, u) :: r => puts (w.setCell ⟨g, k, none⟩ u) g r
def setsL (xs : List Value) : List (Nat × Value) → List Value
  | [] => xs
  | (k, u) :: r => setsL (xs.set k u) r
theorem puts_other (g k : Nat) (hk : k ≠ g) : ∀ (ws : List (Nat × Value)) (w : World), (puts w g ws).heap[k]? = w.heap[k]?
  | [], w => rfl
  | (j, u) :: r, w => (puts_other g k hk r _).trans (Below.heap_setCell w _ u k hk)
theorem puts_size (g : Nat) : ∀ (ws : List (Nat × Value)) (w : World), (puts w g ws).heap.size = w.heap.size
  | [], w => rfl
  | (j, u) :: r, w => (puts_size g r _).trans (by simp [World.setCell])
theorem puts_rest (g : Nat) : ∀ (ws : List (Nat × Value)) (w : World), (puts w g ws).os = w.os ∧ (puts w g ws).tape = w.tape ∧ (puts w g ws).output = w.output
  | [], w => ⟨rfl, rfl, rfl⟩
  | (j, u) :: r, w => puts_rest g r _
theorem puts_own {base : Nat} {e : TypeId} {v : Value} {n : Nat} {g : Nat} (hg : v.ownBlock = some g) : ∀ (ws : List (Nat × Value)) (w : World) (xs : List Value), (∀ k u, (k, u) ∈ ws → k < n * s) → w.ownsRow base e s v n xs → (puts w g ws).ownsRow base e s v n (setsL xs ws)
  | [], w, xs, _, h => h
  | (k, u) :: r, w, xs, hk, h => puts_own hg r _ _ (fun k' u' hm => hk k' u' (List.mem_cons_of_mem _ hm)) (own_set h hg k (hk k u (List.mem_cons_self ..)) u)
theorem PileS.puts (h : PileS c s eT pT fv p K w a l) {g : Nat} (hg : a = some g) (ws : List (Nat × Value)) (hw : ∀ k u, (k, u) ∈ ws → k < l.length * s) (hl : l'.length = l.length) (hx : setsL (rowC c l) ws = rowC c l') :
    PileS c s eT pT fv p K (puts w g ws) a l' ∧ Keeps p a w (puts w g ws) := by
  obtain ⟨h1, h2, ⟨v, h3, h4, h5⟩, h6⟩ := h
  subst hg
  have hpg : p ≠ g := fun e => h2 (by rw [e])
  refine ⟨⟨by omega, h2, ⟨v, ?_, h4, ?_⟩, fun b o hm => ⟨?_, (h6 b o hm).2⟩⟩, ?_⟩
  · exact (puts_other g p hpg ws w).trans h3
  · rw [hl, ← hx]; exact puts_own h4 ws w _ hw h5
  · have := h6 b o hm
    exact (puts_other g b (fun e => this.2.2 (by rw [e])) ws w).trans this.1
  · obtain ⟨e1, e2, e3⟩ := puts_rest g ws w
    exact ⟨e1, e2, e3, by rw [puts_size]; omega, fun k _ _ hk => puts_other g k (fun e => hk (by rw [e])) ws w⟩
/-- a row of cells that has all that a row of structs has -/
theorem row_ext (hc : ∀ x, (c x).length = s) (hs : 0 < s) {xs : List Value} (hlen : xs.length = l.length * s) (h : ∀ i (hi : i < l.length) t, t < s → xs[i * s + t]? = (c l[i])[t]?) : xs = rowC c l := by
  apply List.ext_getElem?
  intro k
  rcases Nat.lt_or_ge k (l.length * s) with hk | hk
  · have hi : k / s < l.length := Nat.div_lt_of_lt_mul (by rw [Nat.mul_comm]; exact hk)
    have ht := Nat.mod_lt k hs
    have e : k = k / s * s + k % s := by rw [Nat.mul_comm]; exact (Nat.div_add_mod k s).symm
    rw [e, h _ hi _ ht, rowC_get hc l _ _ hi ht]
  · rw [List.getElem?_eq_none (by omega), List.getElem?_eq_none (by rw [rowC_length hc]; omega)]
theorem swp_at (l : List α) (i j k : Nat) (hi : i < l.length) (hj : j < l.length) (hk : k < (swp l i j).length) : (swp l i j)[k] = if k = j then l[i] else if k = i then l[j] else l[k]'(by rw [swp_length] at hk; exact hk) := by
  have hk' : k < l.length := by rw [swp_length] at hk; exact hk
  have := swp_get l i j k hi hj
  rw [List.getElem?_eq_getElem hk] at this
  have h2 : some (swp l i j)[k] = some (if k = j then l[i] else if k = i then l[j] else l[k]) := by
    rw [this, List.getElem?_eq_getElem hi, List.getElem?_eq_getElem hj, List.getElem?_eq_getElem hk']
    split
    · rfl
    · split <;> rfl
  injection h2
theorem cell_set_some {w : World} {q r : Addr} {x v : Value} (h : w.cell? r = some v) : ∃ v', (w.setCell q x).cell? r = some v' := by
  by_cases e : q = r
  · subst e; exact ⟨x, World.cell?_setCell_same w q x h⟩
  · exact ⟨v, (World.cell?_setCell_other w q r x e).trans h⟩
theorem own_other {base : Nat} {e : TypeId} {v : Value} {n : Nat} {xs : List Value} (h : w.ownsRow base e s v n xs) {q : Addr} (hq : some q.block ≠ v.ownBlock) (u : Value) : (w.setCell q u).ownsRow base e s v n xs :=
  h.kept (row := some q.block) ⟨rfl, rfl, rfl, by simp [World.setCell], fun k _ hk => Below.heap_setCell w q u k (fun e => hk (by rw [e]))⟩ (.inr (Ne.symm hq))
theorem PileS.pushed (h : PileS c s eT pT fv p K w a l) (hl : l.length + 1 ≤ 1000000) {W0 w1 : World} (hb : Below w.heap.size w W0) (grow : W0.grownBy w1 a) {g cap : Nat} {x : α} (hg : a = some g ∨ w.heap.size ≤ g)
    (own : w1.ownsRow 0 eT s (.slice (some ⟨g, 0, none⟩) (l.length + 1) cap) (l.length + 1) (rowC c l ++ c x)) :
    ∃ a', PileS c s eT pT fv p K (w1.setCell ⟨p, 0, none⟩ (.slice (some ⟨g, 0, none⟩) (l.length + 1) cap)) a' (l ++ [x]) ∧ Fresh w a a' ∧ Keeps p a w (w1.setCell ⟨p, 0, none⟩ (.slice (some ⟨g, 0, none⟩) (l.length + 1) cap)) := by
  obtain ⟨h1, h2, ⟨v, h3, h4, h5⟩, h6⟩ := h
  have hp := h3.lt
  have hpg : p ≠ g := by
    rcases hg with rfl | hg
    · intro e; exact h2 (by rw [e])
    · omega
  have old : ∀ k, k < w.heap.size → some k ≠ a → w1.heap[k]? = w.heap[k]? := fun k hk hka => (grow.block k (Nat.lt_of_lt_of_le hk hb.size) hka).trans (hb.block k hk)
  have e1 : Blk w1 p #[v, fv] pT := (old p hp (Ne.symm h2)).trans h3
  refine ⟨some g, ⟨by simp; omega, by intro e; injection e with e; exact hpg e.symm, ⟨_, e1.set 0 _, rfl, ?_⟩, fun b o hm => ?_⟩, ?_, ?_⟩
  · rw [List.length_append, List.length_singleton, rowC_append, rowC_single]
    exact own_other own (by simp [Value.ownBlock]; exact hpg) _
  · obtain ⟨k1, k2, k3⟩ := h6 b o hm
    have hbl := (Array.getElem?_eq_some_iff.1 k1).1
    refine ⟨(Below.heap_setCell w1 _ _ b k2).trans ((old b hbl k3).trans k1), k2, ?_⟩
    rcases hg with rfl | hg
    · exact k3
    · intro e; injection e with e; omega
  · rcases hg with hg | hg
    · exact .inl hg.symm
    · exact .inr ⟨g, rfl, hg⟩
  · exact ⟨grow.os.trans hb.os, grow.tape.trans hb.tape, grow.output.trans hb.output, by have := hb.size; have := grow.size; simp [World.setCell]; omega, fun k hk hkp hka => (Below.heap_setCell w1 _ _ k hkp).trans (old k hk hka)⟩
theorem PileS.popped (h : PileS c s eT pT fv p K w a (l ++ [x])) (hc : ∀ y, (c y).length = s) {A : Option Addr} {n cap : Nat} (hv : Blk w p #[.slice A n cap, fv] pT) (hA : (Value.slice A n cap).ownBlock = a) (hs : 0 < s) :
    PileS c s eT pT fv p K (w.setCell ⟨p, 0, none⟩ (.slice A l.length cap)) a l ∧ Keeps p a w (w.setCell ⟨p, 0, none⟩ (.slice A l.length cap)) := by
  obtain ⟨h1, h2, ⟨v, h3, h4, h5⟩, h6⟩ := h
  have hp := h3.lt
  obtain rfl : v = .slice A n cap := by
    have := h3.symm.trans hv
    injection this with this
    injection this with this
    injection this with this
    injection this with this
  have hn : n = (l ++ [x]).length := by
    rcases h5.2 with ⟨e, e2⟩ | ⟨g, cap', cur, e, _⟩
    · injection e with _ e3 _; simp at e2
    · injection e
  refine ⟨⟨by simp at h1; omega, h2, ⟨_, hv.set 0 _, ?_, ?_⟩, fun b o hm => ?_⟩, ?_⟩
  · cases A <;> simpa [Value.ownBlock] using hA
  · have hne : some p ≠ (Value.slice A l.length cap).ownBlock := by
      intro e
      apply h2
      rw [← hA]
      cases A <;> simpa [Value.ownBlock] using e.symm
    refine own_other ?_ hne _
    refine ⟨rowC_length hc l, ?_⟩
    rcases h5.2 with ⟨e, e2⟩ | ⟨g, cap', cur, e, hb, hgg, hnc, hcm, hcs, htk⟩
    · simp at e2
    · injection e with e3 e4 e5
      subst e3 e5
      refine .inr ⟨g, cap, cur, rfl, hb, hgg, by simp at hnc; omega, hcm, hcs, ?_⟩
      have : cur.toList.take (l.length * s) = (cur.toList.take ((l ++ [x]).length * s)).take (l.length * s) := by
        rw [List.take_take]; congr 1; simp only [List.length_append, List.length_singleton, Nat.add_mul]; omega
      rw [this, htk, rowC_append, List.take_append_of_le_length (by rw [rowC_length hc]; omega), List.take_of_length_le (by rw [rowC_length hc]; omega)]
  · obtain ⟨k1, k2, k3⟩ := h6 b o hm
    exact ⟨(Below.heap_setCell w _ _ b k2).trans k1, k2, k3⟩
  · exact ⟨rfl, rfl, rfl, by simp [World.setCell], fun k hk hkp hka => Below.heap_setCell w _ _ k hkp⟩
end
end Go.Proofs.Ytijegkiapbmekaa
