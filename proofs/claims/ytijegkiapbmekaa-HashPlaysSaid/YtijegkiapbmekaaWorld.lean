/- Worlds that have grown: new blocks behind the old ones, and draws; nothing that was there has changed. A call that only reads and makes memory leaves such a world; a region that draws its order and holds such calls is walked once. -/
import Derived.WalkKit
import Derived.Deep.Quiet
import Derived.BigQuiet
import Derived.Laws.Entries
import Derived.Deep.Draws
import Derived.StillTailTactics
set_option maxRecDepth 100000
set_option linter.unusedVariables false
set_option linter.unusedSimpArgs false
namespace Go.Proofs.Ytijegkiapbmekaa
open Go.RowKit

theorem run_store_float (P : Program) (w : World) (a : Addr) (m : Mode) (k : FloatKind) (b : Nat) : (store a (.float k b) m).run P w = stored P w a (.float k b) m := run_store P w a _ m rfl
/-- what has come: blocks, and how far the tape has been read -/
structure Ext where
  objs : Array Obj
  read : Nat
instance : Nonempty Ext := ⟨⟨#[], 0⟩⟩
def more (w : World) (x : Ext) : World := { w with heap := w.heap ++ x.objs, drawn := x.read }
def Ext.and (x y : Ext) : Ext := ⟨x.objs ++ y.objs, y.read⟩

theorem more_more (w : World) (x y : Ext) : more (more w x) y = more w (x.and y) := by simp [more, Ext.and, Array.append_assoc]
theorem more_drew (w : World) (x : Ext) : (more w x).drew = more w ⟨x.objs, x.read + 1⟩ := rfl
theorem more_drewN (w : World) (x : Ext) (n : Nat) : (more w x).drewN n = more w ⟨x.objs, x.read + n⟩ := rfl
theorem more_self (w : World) : more w ⟨#[], w.drawn⟩ = w := by simp [more]
theorem drew_more (w : World) (x : Ext) : more w.drew x = more w x := rfl
theorem drewN_more (w : World) (n : Nat) (x : Ext) : more (w.drewN n) x = more w x := rfl
theorem drew_is (w : World) : w.drew = more w ⟨#[], w.drawn + 1⟩ := by unfold more; rw [Array.append_empty]; rfl
theorem drewN_is (w : World) (n : Nat) : w.drewN n = more w ⟨#[], w.drawn + n⟩ := by unfold more; rw [Array.append_empty]; rfl
theorem alloc_is (w : World) (o : Obj) : w.alloc o = more w ⟨#[o], w.drawn⟩ := by unfold more; rw [Array.append_singleton]; rfl
theorem more_size (w : World) (x : Ext) : (more w x).heap.size = w.heap.size + x.objs.size := by simp [more]
theorem more_block (w : World) (x : Ext) {k : Nat} (h : k < w.heap.size) : (more w x).heap[k]? = w.heap[k]? := by simp [more, Array.getElem?_append, h]
theorem more_cell (w : World) (x : Ext) {b : Nat} (o : Nat) (h : b < w.heap.size) : (more w x).cell? ⟨b, o, none⟩ = w.cell? ⟨b, o, none⟩ := by simp only [World.cell?, more_block w x h]
theorem more_frozen (w : World) (x : Ext) {b : Nat} (o : Nat) (h : b < w.heap.size) : (more w x).frozen? ⟨b, o, none⟩ = w.frozen? ⟨b, o, none⟩ := by simp only [World.frozen?, more_block w x h]
theorem more_cell_any (w : World) (x : Ext) {a : Addr} (h : a.block < w.heap.size) : (more w x).cell? a = w.cell? a := by simp only [World.cell?, more_block w x h]
theorem more_frozen_any (w : World) (x : Ext) {a : Addr} (h : a.block < w.heap.size) : (more w x).frozen? a = w.frozen? a := by simp only [World.frozen?, more_block w x h]
theorem more_below (w : World) (x : Ext) : Below w.heap.size w (more w x) := ⟨rfl, rfl, rfl, by rw [more_size]; omega, fun k h => more_block w x h⟩
theorem more_of_below {w w' : World} (h : Below w.heap.size w w') : ∃ x, w' = more w x := by
  refine ⟨⟨w'.heap.extract w.heap.size w'.heap.size, w'.drawn⟩, ?_⟩
  have hs := h.size
  have e : w'.heap = w.heap ++ w'.heap.extract w.heap.size w'.heap.size := by
    apply Array.ext_getElem?
    intro k
    rw [Array.getElem?_append]
    by_cases hk : k < w.heap.size
    · rw [if_pos hk]; exact h.block k hk
    · rw [if_neg hk, Array.getElem?_extract]
      by_cases h2 : k < w'.heap.size
      · rw [if_pos (by omega)]; congr 1; omega
      · rw [if_neg (by omega), Array.getElem?_eq_none (by omega)]
  cases w with | mk heap tape drawn os output =>
  cases w' with | mk heap' tape' drawn' os' output' =>
  have h1 := h.os
  have h2 := h.tape
  have h3 := h.output
  simp only at h1 h2 h3 e
  simp only [more, World.mk.injEq]
  exact ⟨e, h2, trivial, h1, h3⟩
theorem more_grown {w w' : World} (hg : w.grownBy w' none) : ∃ x, w' = more w x :=
  more_of_below ⟨hg.os, hg.tape, hg.output, hg.size, fun k hk => hg.block k hk (by simp)⟩
theorem below_more {B : Nat} {w w' : World} (h : Below B w w') (x : Ext) (hB : B ≤ w'.heap.size) : Below B w (more w' x) :=
  h.trans ((more_below w' x).mono hB)
theorem setCell_more (w : World) (x : Ext) {a : Addr} (v : Value) (h : a.block < w.heap.size) : (more w x).setCell a v = more (w.setCell a v) x := by
  simp only [World.setCell, more]
  congr 1
  apply Array.ext_getElem?
  intro k
  simp only [Array.getElem?_modify, Array.getElem?_append, Array.size_modify]
  by_cases hk : k < w.heap.size
  · simp [hk]
  · have : a.block ≠ k := by omega
    simp [hk, this]

theorem lt_c1 {p q a0 : Nat} (h : p < q) : (p < q + a0) = True := eq_true (by omega)
theorem le_c1 {p q a0 : Nat} (h : p < q) : (p ≤ q + a0) = True := eq_true (by omega)
theorem lt_s1 {p a0 : Nat} : (p < p + 1 + a0) = True := eq_true (by omega)
theorem le_s1 {p a0 : Nat} : (p ≤ p + a0) = True := eq_true (by omega)
theorem lt_c2 {p q a0 a1 : Nat} (h : p < q) : (p < q + a0 + a1) = True := eq_true (by omega)
theorem le_c2 {p q a0 a1 : Nat} (h : p < q) : (p ≤ q + a0 + a1) = True := eq_true (by omega)
theorem lt_s2 {p a0 a1 : Nat} : (p < p + 1 + a0 + a1) = True := eq_true (by omega)
theorem le_s2 {p a0 a1 : Nat} : (p ≤ p + a0 + a1) = True := eq_true (by omega)
theorem lt_c3 {p q a0 a1 a2 : Nat} (h : p < q) : (p < q + a0 + a1 + a2) = True := eq_true (by omega)
theorem le_c3 {p q a0 a1 a2 : Nat} (h : p < q) : (p ≤ q + a0 + a1 + a2) = True := eq_true (by omega)
theorem lt_s3 {p a0 a1 a2 : Nat} : (p < p + 1 + a0 + a1 + a2) = True := eq_true (by omega)
theorem le_s3 {p a0 a1 a2 : Nat} : (p ≤ p + a0 + a1 + a2) = True := eq_true (by omega)
theorem lt_c4 {p q a0 a1 a2 a3 : Nat} (h : p < q) : (p < q + a0 + a1 + a2 + a3) = True := eq_true (by omega)
theorem le_c4 {p q a0 a1 a2 a3 : Nat} (h : p < q) : (p ≤ q + a0 + a1 + a2 + a3) = True := eq_true (by omega)
theorem lt_s4 {p a0 a1 a2 a3 : Nat} : (p < p + 1 + a0 + a1 + a2 + a3) = True := eq_true (by omega)
theorem le_s4 {p a0 a1 a2 a3 : Nat} : (p ≤ p + a0 + a1 + a2 + a3) = True := eq_true (by omega)
theorem lt_c5 {p q a0 a1 a2 a3 a4 : Nat} (h : p < q) : (p < q + a0 + a1 + a2 + a3 + a4) = True := eq_true (by omega)
theorem le_c5 {p q a0 a1 a2 a3 a4 : Nat} (h : p < q) : (p ≤ q + a0 + a1 + a2 + a3 + a4) = True := eq_true (by omega)
theorem lt_s5 {p a0 a1 a2 a3 a4 : Nat} : (p < p + 1 + a0 + a1 + a2 + a3 + a4) = True := eq_true (by omega)
theorem le_s5 {p a0 a1 a2 a3 a4 : Nat} : (p ≤ p + a0 + a1 + a2 + a3 + a4) = True := eq_true (by omega)
theorem lt_c6 {p q a0 a1 a2 a3 a4 a5 : Nat} (h : p < q) : (p < q + a0 + a1 + a2 + a3 + a4 + a5) = True := eq_true (by omega)
theorem le_c6 {p q a0 a1 a2 a3 a4 a5 : Nat} (h : p < q) : (p ≤ q + a0 + a1 + a2 + a3 + a4 + a5) = True := eq_true (by omega)
theorem lt_s6 {p a0 a1 a2 a3 a4 a5 : Nat} : (p < p + 1 + a0 + a1 + a2 + a3 + a4 + a5) = True := eq_true (by omega)
theorem le_s6 {p a0 a1 a2 a3 a4 a5 : Nat} : (p ≤ p + a0 + a1 + a2 + a3 + a4 + a5) = True := eq_true (by omega)
theorem lt_c7 {p q a0 a1 a2 a3 a4 a5 a6 : Nat} (h : p < q) : (p < q + a0 + a1 + a2 + a3 + a4 + a5 + a6) = True := eq_true (by omega)
theorem le_c7 {p q a0 a1 a2 a3 a4 a5 a6 : Nat} (h : p < q) : (p ≤ q + a0 + a1 + a2 + a3 + a4 + a5 + a6) = True := eq_true (by omega)
theorem lt_s7 {p a0 a1 a2 a3 a4 a5 a6 : Nat} : (p < p + 1 + a0 + a1 + a2 + a3 + a4 + a5 + a6) = True := eq_true (by omega)
theorem le_s7 {p a0 a1 a2 a3 a4 a5 a6 : Nat} : (p ≤ p + a0 + a1 + a2 + a3 + a4 + a5 + a6) = True := eq_true (by omega)
theorem lt_c8 {p q a0 a1 a2 a3 a4 a5 a6 a7 : Nat} (h : p < q) : (p < q + a0 + a1 + a2 + a3 + a4 + a5 + a6 + a7) = True := eq_true (by omega)
theorem le_c8 {p q a0 a1 a2 a3 a4 a5 a6 a7 : Nat} (h : p < q) : (p ≤ q + a0 + a1 + a2 + a3 + a4 + a5 + a6 + a7) = True := eq_true (by omega)
theorem lt_s8 {p a0 a1 a2 a3 a4 a5 a6 a7 : Nat} : (p < p + 1 + a0 + a1 + a2 + a3 + a4 + a5 + a6 + a7) = True := eq_true (by omega)
theorem le_s8 {p a0 a1 a2 a3 a4 a5 a6 a7 : Nat} : (p ≤ p + a0 + a1 + a2 + a3 + a4 + a5 + a6 + a7) = True := eq_true (by omega)
theorem lt_c9 {p q a0 a1 a2 a3 a4 a5 a6 a7 a8 : Nat} (h : p < q) : (p < q + a0 + a1 + a2 + a3 + a4 + a5 + a6 + a7 + a8) = True := eq_true (by omega)
theorem le_c9 {p q a0 a1 a2 a3 a4 a5 a6 a7 a8 : Nat} (h : p < q) : (p ≤ q + a0 + a1 + a2 + a3 + a4 + a5 + a6 + a7 + a8) = True := eq_true (by omega)
theorem lt_s9 {p a0 a1 a2 a3 a4 a5 a6 a7 a8 : Nat} : (p < p + 1 + a0 + a1 + a2 + a3 + a4 + a5 + a6 + a7 + a8) = True := eq_true (by omega)
theorem le_s9 {p a0 a1 a2 a3 a4 a5 a6 a7 a8 : Nat} : (p ≤ p + a0 + a1 + a2 + a3 + a4 + a5 + a6 + a7 + a8) = True := eq_true (by omega)
theorem lt_c10 {p q a0 a1 a2 a3 a4 a5 a6 a7 a8 a9 : Nat} (h : p < q) : (p < q + a0 + a1 + a2 + a3 + a4 + a5 + a6 + a7 + a8 + a9) = True := eq_true (by omega)
theorem le_c10 {p q a0 a1 a2 a3 a4 a5 a6 a7 a8 a9 : Nat} (h : p < q) : (p ≤ q + a0 + a1 + a2 + a3 + a4 + a5 + a6 + a7 + a8 + a9) = True := eq_true (by omega)
theorem lt_s10 {p a0 a1 a2 a3 a4 a5 a6 a7 a8 a9 : Nat} : (p < p + 1 + a0 + a1 + a2 + a3 + a4 + a5 + a6 + a7 + a8 + a9) = True := eq_true (by omega)
theorem le_s10 {p a0 a1 a2 a3 a4 a5 a6 a7 a8 a9 : Nat} : (p ≤ p + a0 + a1 + a2 + a3 + a4 + a5 + a6 + a7 + a8 + a9) = True := eq_true (by omega)
theorem lt_c11 {p q a0 a1 a2 a3 a4 a5 a6 a7 a8 a9 a10 : Nat} (h : p < q) : (p < q + a0 + a1 + a2 + a3 + a4 + a5 + a6 + a7 + a8 + a9 + a10) = True := eq_true (by omega)
theorem le_c11 {p q a0 a1 a2 a3 a4 a5 a6 a7 a8 a9 a10 : Nat} (h : p < q) : (p ≤ q + a0 + a1 + a2 + a3 + a4 + a5 + a6 + a7 + a8 + a9 + a10) = True := eq_true (by omega)
theorem lt_s11 {p a0 a1 a2 a3 a4 a5 a6 a7 a8 a9 a10 : Nat} : (p < p + 1 + a0 + a1 + a2 + a3 + a4 + a5 + a6 + a7 + a8 + a9 + a10) = True := eq_true (by omega)
theorem le_s11 {p a0 a1 a2 a3 a4 a5 a6 a7 a8 a9 a10 : Nat} : (p ≤ p + a0 + a1 + a2 + a3 + a4 + a5 + a6 + a7 + a8 + a9 + a10) = True := eq_true (by omega)
theorem lt_c12 {p q a0 a1 a2 a3 a4 a5 a6 a7 a8 a9 a10 a11 : Nat} (h : p < q) : (p < q + a0 + a1 + a2 + a3 + a4 + a5 + a6 + a7 + a8 + a9 + a10 + a11) = True := eq_true (by omega)
theorem le_c12 {p q a0 a1 a2 a3 a4 a5 a6 a7 a8 a9 a10 a11 : Nat} (h : p < q) : (p ≤ q + a0 + a1 + a2 + a3 + a4 + a5 + a6 + a7 + a8 + a9 + a10 + a11) = True := eq_true (by omega)
theorem lt_s12 {p a0 a1 a2 a3 a4 a5 a6 a7 a8 a9 a10 a11 : Nat} : (p < p + 1 + a0 + a1 + a2 + a3 + a4 + a5 + a6 + a7 + a8 + a9 + a10 + a11) = True := eq_true (by omega)
theorem le_s12 {p a0 a1 a2 a3 a4 a5 a6 a7 a8 a9 a10 a11 : Nat} : (p ≤ p + a0 + a1 + a2 + a3 + a4 + a5 + a6 + a7 + a8 + a9 + a10 + a11) = True := eq_true (by omega)
theorem le_c0 {p q : Nat} (h : p < q) : (p ≤ q) = True := eq_true (by omega)
/-- the call gives this value; nothing that was there has changed -/
def Gives (P : Program) (f : FuncId) (args : Array Value) (w : World) (v : Value) : Prop := Calls P f args w fun e w' => e = .returned v ∧ ∃ x, w' = more w x
theorem Gives.mono' {P : Program} {f : FuncId} {args : Array Value} {w : World} {v : Value} (h : Gives P f args w v) {R : Ending → World → Prop} (k : ∀ x, R (.returned v) (more w x)) : Calls P f args w R :=
  Calls.mono h fun _ _ ⟨he, x, hx⟩ => by subst he; subst hx; exact k x
theorem gives_of_same {P : Program} {f : FuncId} {args : Array Value} {w : World} {v : Value} (h : Calls P f args w fun e w' => e = .returned v ∧ w = w') : Gives P f args w v :=
  Calls.mono h fun _ w' ⟨he, hw⟩ => ⟨he, ⟨#[], w.drawn⟩, by rw [more_self]; exact hw.symm⟩
theorem law_of {P : Program} {f : FuncId} {args : Array Value} {w : World} {v : Value} (h : Gives P f args w v) : Calls P f args w fun e w' => e = .returned v ∧ Below w.heap.size w w' :=
  Calls.mono h fun _ _ ⟨he, x, hx⟩ => ⟨he, hx ▸ more_below w x⟩
/-- met in a drawn region -/
theorem Gives.at_ {P : Program} {f : FuncId} {args : Array Value} {w : World} {x : Ext} {v : Value} (h : Gives P f args (more w x) v) :
    Calls P f args (more w x) fun e w' => e = .returned v ∧ ∃ y, w' = more w y :=
  Calls.mono h fun _ _ ⟨he, y, hy⟩ => ⟨he, x.and y, hy.trans (more_more w x y)⟩

theorem wp_region_more {P : Program} {id : Nat} {Q : Exit → Act → World → Prop} {a : Act} {w : World} {l : List Oper} (hm : P.follows .mixedOrders = true) (hB : Region.lexB .any l.toArray = true)
    (h : wpQuiet P l.toArray (fun w' => ∃ x, w' = more w x) (fun a' => ∀ w', (∃ x, w' = more w x) → Q .normal a' w') l a) : (Code.region id l.toArray true).wp P Q a w :=
  wp_region_quiet (C := fun w' => ∃ x, w' = more w x) hm hB ⟨⟨#[], w.drawn + 1⟩, by simp [more]⟩ (by simpa using h)
theorem wp_region_more2 {P : Program} {id : Nat} {Q : Exit → Act → World → Prop} {a : Act} {w : World} {x : Ext} {l : List Oper} (hm : P.follows .mixedOrders = true) (hB : Region.lexB .any l.toArray = true)
    (h : wpQuiet P l.toArray (fun w' => ∃ x, w' = more w x) (fun a' => ∀ w', (∃ x, w' = more w x) → Q .normal a' w') l a) : (Code.region id l.toArray true).wp P Q a (more w x) :=
  wp_region_quiet (C := fun w' => ∃ x, w' = more w x) hm hB ⟨⟨x.objs, x.read + 1⟩, rfl⟩ (by simpa using h)
theorem wp_region_tail {P : Program} {id : Nat} {Q : Exit → Act → World → Prop} {a : Act} {w : World} {l : List Oper} (n : Nat) (hm : P.follows .mixedOrders = true) (hB : Region.lexTailB .any l.toArray n = true)
    (h : wpStill P l.toArray w.drew (fun a' => wpList P l.toArray Q (l.drop n) a' w.drew) (l.take n) a) : (Code.region id l.toArray true).wp P Q a w :=
  wp_region_still_tail n hm hB h
theorem flip {P : Program} {f : FuncId} {args : Array Value} {w : World} {v : Value} (h : Calls P f args w fun e w' => e = .returned v ∧ w = w') : Calls P f args w fun e w' => e = .returned v ∧ w' = w :=
  h.mono fun _ _ ⟨a, b⟩ => ⟨a, b.symm⟩
theorem below_then {w W w1 : World} (h : Below w.heap.size w W) (h1 : Below W.heap.size W w1) : Below w.heap.size w w1 := h.trans (h1.mono h.size)
theorem more_then {w W w1 : World} (h : Below w.heap.size w W) (h1 : Below W.heap.size W w1) : ∃ x, w1 = more w x := more_of_below (below_then h h1)
theorem calls_at {P : Program} {f : FuncId} {args : Array Value} {Q : Ending → World → Prop} {w : World} {R : World → Prop} (h : R w) (k : ∀ W, R W → Calls P f args W Q) : Calls P f args w Q := k w h
end Go.Proofs.Ytijegkiapbmekaa
