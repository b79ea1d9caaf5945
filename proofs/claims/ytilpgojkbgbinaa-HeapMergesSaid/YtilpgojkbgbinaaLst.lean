/- Beneath heaps.Least and heaps.Merge: rows that lie beside a pile. -/
import Derived.Test.YtilpgojkbgbinaaSortP
import Derived.Test.YtilpgojkbgbinaaStabF
set_option maxRecDepth 100000
set_option linter.unusedVariables false
set_option linter.unusedSimpArgs false
namespace Go.Proofs.Ytilpgojkbgbinaa
open Go.RowKit
/-- a walk halts ahead of a region that draws, at a world of a name -/
theorem wp_called_r {P : Program} {id : Nat} {l : Array Oper} {Q : Exit → Act → World → Prop} {a : Act} {w : World} {R : World → Prop} (h : R w) (k : Hid (∀ W, R W → Code.wp P (.region id l true) Q a W)) : Code.wp P (.region id l true) Q a w := k.out w h
section
variable {w w' : World} {base : Nat} {e : TypeId} {s : Nat} {v : Value} {n : Nat} {xs : List Value}
theorem own_lt (h : w.ownsRow base e s v n xs) : ∀ g, v.ownBlock = some g → g < w.heap.size := by
  intro g hg
  rcases h.2 with ⟨rfl, _⟩ | ⟨g', cap, cur, rfl, _, hgg, _⟩
  · simp [Value.ownBlock] at hg
  · simp [Value.ownBlock] at hg
    subst hg
    exact (Array.getElem?_eq_some_iff.1 hgg).1
theorem own_some (h : w.ownsRow base e s v n xs) (hn : 0 < n) : ∃ g cap, v = .slice (some ⟨g, 0, none⟩) n cap := by
  rcases h.2 with ⟨_, h0⟩ | ⟨g', cap, cur, rfl, _⟩
  · omega
  · exact ⟨g', cap, rfl⟩
theorem own_kept' (h : w.ownsRow base e s v n xs) (hk : ∀ g, v.ownBlock = some g → w'.heap[g]? = w.heap[g]?) : w'.ownsRow base e s v n xs := by
  obtain ⟨h1, h2⟩ := h
  refine ⟨h1, ?_⟩
  rcases h2 with h2 | ⟨g, cap, cur, rfl, hb, hg, r⟩
  · exact .inl h2
  · exact .inr ⟨g, cap, cur, rfl, hb, (hk g rfl).trans hg, r⟩
theorem own_base {B : Nat} (h : w.ownsRow base e s v n xs) (hB : B ≤ base) : w.ownsRow B e s v n xs := by
  obtain ⟨h1, h2⟩ := h
  refine ⟨h1, ?_⟩
  rcases h2 with h2 | ⟨g, cap, cur, rfl, hb, hg, r⟩
  · exact .inl h2
  · exact .inr ⟨g, cap, cur, rfl, Nat.le_trans hB hb, hg, r⟩
end
theorem Keeps.below {p : Nat} {a : Option Nat} {w w' : World} (h : Keeps p a w w') {B : Nat} (hB : B ≤ w.heap.size) (hp : B ≤ p) (ha : ∀ g, a = some g → B ≤ g) : Below B w w' :=
  ⟨h.os, h.tape, h.output, h.size, fun k hk => h.block k (Nat.lt_of_lt_of_le hk hB) (by omega) (by intro e; have := ha k e.symm; omega)⟩
theorem Keeps.own {p : Nat} {a : Option Nat} {w w' : World} (h : Keeps p a w w') {base : Nat} {e : TypeId} {s : Nat} {v : Value} {n : Nat} {xs : List Value} (o : w.ownsRow base e s v n xs) (hp : ∀ g, v.ownBlock = some g → g ≠ p ∧ some g ≠ a) : w'.ownsRow base e s v n xs :=
  own_kept' o fun g hg => h.block g (own_lt o g hg) (hp g hg).1 (hp g hg).2
section
variable {α : Type} {c : α → List Value} {s : Nat} {eT pT : TypeId} {fv : Value} {p : Nat} {K : List (Nat × Obj)} {w w' : World} {a : Option Nat} {l l' : List α} {x : α}
/-- a pile where only a row beside it has grown -/
theorem PileS.beside (h : PileS c s eT pT fv p K w a l) {r : Option Nat} (hg : w.grownBy w' r) (hp : some p ≠ r) (ha : a ≠ none → a ≠ r) (hK : ∀ b o, (b, o) ∈ K → some b ≠ r) : PileS c s eT pT fv p K w' a l := by
  obtain ⟨h1, h2, ⟨v, h3, h4, h5⟩, h6⟩ := h
  refine ⟨h1, h2, ⟨v, h3.grown hg hp, h4, own_kept' h5 fun g e => hg.block g (own_lt h5 g e) ?_⟩, fun b o hm => ⟨?_, (h6 b o hm).2⟩⟩
  · rw [← e, h4]; exact ha (by rw [← h4, e]; simp)
  · have := (h6 b o hm).1
    exact (hg.block b (Array.getElem?_eq_some_iff.1 this).1 (hK b o hm)).trans this
theorem PileS.p_lt (h : PileS c s eT pT fv p K w a l) : p < w.heap.size := by
  obtain ⟨h1, h2, ⟨v, h3, h4, h5⟩, h6⟩ := h; exact h3.lt
theorem PileS.a_lt (h : PileS c s eT pT fv p K w a l) : ∀ g, a = some g → g < w.heap.size := by
  obtain ⟨h1, h2, ⟨v, h3, h4, h5⟩, h6⟩ := h; subst h4; exact own_lt h5
theorem PileS.new (w : World) (t : TypeId) (pT' eT' : TypeId) (fv : Value) (c : α → List Value) (s : Nat) (o : Obj) {b : Nat} (hb : b = w.heap.size) {q : Nat} (hq : q = w.heap.size + 1) : PileS c s eT' pT' fv q [(b, o)] ((w.alloc o).alloc (.cells #[.slice none 0 0, fv] pT')) none ([] : List α) := by
  subst hb hq
  refine ⟨by simp, by simp, ⟨.slice none 0 0, Blk.new _ _ _ (by simp), rfl, World.ownsRow_nil _ _ _ _⟩, fun b o' hm => ?_⟩
  simp only [List.mem_singleton, Prod.mk.injEq] at hm
  obtain ⟨rfl, rfl⟩ := hm
  refine ⟨?_, by omega, by simp⟩
  exact (Below.heap_alloc _ _ _ (by simp)).trans (heap_alloc_new w _)
theorem fresh_ge {w w' : World} {a a' : Option Nat} {B : Nat} (hf : Fresh w a a') (hB : B ≤ w.heap.size) (ha : ∀ g, a = some g → B ≤ g) : ∀ g, a' = some g → B ≤ g := by
  intro g hg
  rcases hf with rfl | ⟨k, rfl, hk⟩
  · exact ha g hg
  · injection hg with hg; omega
end
end Go.Proofs.Ytilpgojkbgbinaa
