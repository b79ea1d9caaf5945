/- container/heap, over whatever pile: what each function makes of it. -/
import Derived.Test.YtijegkiapbmekaaHeapP
import Derived.Test.YtijegkiapbmekaaOwn
set_option maxRecDepth 100000
set_option linter.unusedVariables false
set_option linter.unusedSimpArgs false
namespace Go.Proofs.Ytijegkiapbmekaa
open Go.RowKit
attribute [local go_sem] run_frombits run_tobits more_more more_drew more_drewN more_size more_cell more_frozen run_store_float lt_c1 le_c1 lt_s1 le_s1 lt_c2 le_c2 lt_s2 le_s2 lt_c3 le_c3 lt_s3 le_s3 lt_c4 le_c4 lt_s4 le_s4 lt_c5 le_c5 lt_s5 le_s5 lt_c6 le_c6 lt_s6 le_s6 lt_c7 le_c7 lt_s7 le_s7 lt_c8 le_c8 lt_s8 le_s8 lt_c9 le_c9 lt_s9 le_s9 lt_c10 le_c10 lt_s10 le_s10 lt_c11 le_c11 lt_s11 le_s11 lt_c12 le_c12 lt_s12 le_s12 le_c0

/-- all blocks are as they were, but two: that of a pile, and that of its row; new ones may have come -/
structure Keeps (p : Nat) (a : Option Nat) (w w' : World) : Prop where
  os : w'.os = w.os
  tape : w'.tape = w.tape
  output : w'.output = w.output
  size : w.heap.size ≤ w'.heap.size
  block : ∀ k, k < w.heap.size → k ≠ p → some k ≠ a → w'.heap[k]? = w.heap[k]?
/-- the same row, or a new one -/
def Fresh (w : World) (a a' : Option Nat) : Prop := a' = a ∨ ∃ k, a' = some k ∧ w.heap.size ≤ k
theorem Keeps.refl (p : Nat) (a : Option Nat) (w : World) : Keeps p a w w := ⟨rfl, rfl, rfl, Nat.le_refl _, fun _ _ _ _ => rfl⟩
theorem Keeps.trans {p : Nat} {a a1 : Option Nat} {w w1 w2 : World} (h : Keeps p a w w1) (k : Keeps p a1 w1 w2) (hf : Fresh w a a1) : Keeps p a w w2 :=
  ⟨k.os.trans h.os, k.tape.trans h.tape, k.output.trans h.output, Nat.le_trans h.size k.size, fun i h1 h2 h3 =>
    (k.block i (Nat.lt_of_lt_of_le h1 h.size) h2 (by
      rcases hf with rfl | ⟨m, rfl, hm⟩
      · exact h3
      · intro e; injection e with e; omega)).trans (h.block i h1 h2 h3)⟩
theorem Keeps.trans' {p : Nat} {a : Option Nat} {w w1 w2 : World} (h : Keeps p a w w1) (k : Keeps p a w1 w2) : Keeps p a w w2 := h.trans k (.inl rfl)
theorem keeps_more (p : Nat) (a : Option Nat) (w : World) (x : Ext) : Keeps p a w (more w x) := ⟨rfl, rfl, rfl, by rw [more_size]; omega, fun k h _ _ => more_block w x h⟩
theorem Fresh.refl (w : World) (a : Option Nat) : Fresh w a a := .inl rfl
/-- what a pile's methods do -/
structure Pile {α : Type} (lt : α → α → Bool) (d : α) (T : TypeId) (hp : Value) (fLen fLess fSwap fPush fPop : FuncId) (p : Nat) (iv : α → Value) (S : World → Option Nat → List α → Prop) : Prop where
  mLen : ∀ w, (method 353 T hp "Len").run Try.prog w = .ok (fLen, hp) w
  mLess : ∀ w, (method 353 T hp "Less").run Try.prog w = .ok (fLess, hp) w
  mSwap : ∀ w, (method 353 T hp "Swap").run Try.prog w = .ok (fSwap, hp) w
  mPush : ∀ w, (method 353 T hp "Push").run Try.prog w = .ok (fPush, hp) w
  mPop : ∀ w, (method 353 T hp "Pop").run Try.prog w = .ok (fPop, hp) w
  eLen : ∀ (args : Array Value) (w : World), (callFunc fLen args).run Try.prog w = .ok (.enter fLen args) w
  eLess : ∀ (args : Array Value) (w : World), (callFunc fLess args).run Try.prog w = .ok (.enter fLess args) w
  eSwap : ∀ (args : Array Value) (w : World), (callFunc fSwap args).run Try.prog w = .ok (.enter fSwap args) w
  ePush : ∀ (args : Array Value) (w : World), (callFunc fPush args).run Try.prog w = .ok (.enter fPush args) w
  ePop : ∀ (args : Array Value) (w : World), (callFunc fPop args).run Try.prog w = .ok (.enter fPop args) w
  bound : ∀ w a l, S w a l → l.length ≤ 1000000
  more : ∀ w a l x, S w a l → S (more w x) a l
  len : ∀ w a l, S w a l → Calls Try.prog fLen #[hp] w fun e w' => e = .returned (.int .i64 l.length) ∧ w = w'
  less : ∀ w a l (i j : Nat), i < l.length → j < l.length → S w a l → Gives Try.prog fLess #[hp, .int .i64 i, .int .i64 j] w (.bool (lt (nth d l i) (nth d l j)))
  swap : ∀ w a l (i j : Nat), i < l.length → j < l.length → S w a l → Calls Try.prog fSwap #[hp, .int .i64 i, .int .i64 j] w fun e w' => e = .returned (.tuple #[]) ∧ S w' a (swp l i j) ∧ Keeps p a w w'
  push : ∀ w a l x, l.length + 1 ≤ 1000000 → S w a l → Calls Try.prog fPush #[hp, iv x] w fun e w' => e = .returned (.tuple #[]) ∧ ∃ a', S w' a' (l ++ [x]) ∧ Fresh w a a' ∧ Keeps p a w w'
  pop : ∀ w a l x, S w a (l ++ [x]) → Calls Try.prog fPop #[hp] w fun e w' => e = .returned (iv x) ∧ S w' a l ∧ Keeps p a w w'
section
variable {α : Type} {lt : α → α → Bool} {d : α} {T : TypeId} {hp : Value} {fLen fLess fSwap fPush fPop : FuncId} {p : Nat} {iv : α → Value} {S : World → Option Nat → List α → Prop}
theorem upL_out (f : Nat) (l : List α) (k : Nat) (h : par k = k ∨ lt (nth d l k) (nth d l (par k)) = false) : upL lt d f l k = l := by
  cases f with
  | zero => rfl
  | succ f =>
    unfold upL
    rcases h with h | h
    · rw [if_pos h]
    · rw [if_neg (show ¬ lt (nth d l k) (nth d l (par k)) = true by rw [h]; decide)]; split <;> rfl
theorem downL_end (f : Nat) (l : List α) (i n : Nat) (h : n ≤ 2 * i + 1 ∨ lt (nth d l (kid lt d l i n)) (nth d l i) = false) : downL lt d f l i n = l := by
  cases f with
  | zero => rfl
  | succ f =>
    unfold downL
    rcases h with h | h
    · rw [if_pos h]
    · rw [if_neg (show ¬ lt (nth d l (kid lt d l i n)) (nth d l i) = true by rw [h]; decide)]; split <;> rfl
end
end Go.Proofs.Ytijegkiapbmekaa
