/- Worlds in which only some blocks have changed; rows of one's own there. -/
import Derived.Test.YtijegkiapbmekaaScopy
import Derived.Test.YtijegkiapbmekaaInsert
import Derived.Test.YtijegkiapbmekaaHmem
set_option maxRecDepth 100000
set_option linter.unusedVariables false
set_option linter.unusedSimpArgs false
namespace Go.Proofs.Ytijegkiapbmekaa
open Go.RowKit
open Go.Maps (has size Keyed int_keyed keyOf_int_mk)
theorem wp_named9 {P : Program} {c : Code} {Q : Exit → Act → World → Prop} {a : Act} {w : World} {R : World → Prop} (h : R w) (k : ∀ W, R W → Code.wp P c Q a W) : Code.wp P c Q a w := k w h
/-- blocks outside F are as they were -/
structure Chg (F : Nat → Prop) (w w' : World) : Prop where
  os : w'.os = w.os
  tape : w'.tape = w.tape
  output : w'.output = w.output
  size : w.heap.size ≤ w'.heap.size
  block : ∀ k, k < w.heap.size → ¬ F k → w'.heap[k]? = w.heap[k]?
/-- F' has what F has, and new blocks -/
def Grew (w : World) (F F' : Nat → Prop) : Prop := (∀ k, F k → F' k) ∧ ∀ k, F' k → F k ∨ w.heap.size ≤ k
section
variable {F F' : Nat → Prop} {w w1 w' : World}
theorem Grew.refl : Grew w F F := ⟨fun _ h => h, fun _ h => .inl h⟩
theorem Grew.trans {F2 : Nat → Prop} (h : Grew w F F') (hs : w.heap.size ≤ w1.heap.size) (k : Grew w1 F' F2) : Grew w F F2 :=
  ⟨fun x hx => k.1 x (h.1 x hx), fun x hx => by
    rcases k.2 x hx with q | q
    · exact h.2 x q
    · exact .inr (Nat.le_trans hs q)⟩
theorem Chg.refl : Chg F w w := ⟨rfl, rfl, rfl, Nat.le_refl _, fun _ _ _ => rfl⟩
theorem Chg.trans (h : Chg F w w1) (hg : Grew w F F') (k : Chg F' w1 w') : Chg F w w' :=
  ⟨k.os.trans h.os, k.tape.trans h.tape, k.output.trans h.output, Nat.le_trans h.size k.size, fun i h1 h2 =>
    (k.block i (Nat.lt_of_lt_of_le h1 h.size) (fun e => by
      rcases hg.2 i e with q | q
      · exact h2 q
      · omega)).trans (h.block i h1 h2)⟩
theorem Chg.then (h : Chg F w w1) (k : Chg F w1 w') : Chg F w w' := h.trans Grew.refl k
theorem Chg.of_below (h : Below w.heap.size w w') : Chg F w w' := ⟨h.os, h.tape, h.output, h.size, fun k hk _ => h.block k hk⟩
theorem Chg.of_grown {r : Option Nat} (h : w.grownBy w' r) (hr : ∀ g, r = some g → F g) : Chg F w w' :=
  ⟨h.os, h.tape, h.output, h.size, fun k hk hn => h.block k hk (fun e => hn (hr k e.symm))⟩
theorem Chg.set (a : Addr) (u : Value) (ha : F a.block) : Chg F w (w.setCell a u) :=
  ⟨rfl, rfl, rfl, by simp [World.setCell], fun k _ hn => Below.heap_setCell w a u k (fun e => hn (e ▸ ha))⟩
theorem Chg.alloc (o : Obj) : Chg F w (w.alloc o) := Chg.of_below ((Below.refl _ _).alloc (Nat.le_refl _) o)
theorem Chg.drew : Chg F w w.drew := Chg.of_below (Below.drew (Below.refl _ _))
theorem Chg.more (x : Ext) : Chg F w (more w x) := Chg.of_below (more_below w x)
theorem Chg.mono (h : Chg F w w') (hF : ∀ k, F k → F' k) : Chg F' w w' := ⟨h.os, h.tape, h.output, h.size, fun k h1 h2 => h.block k h1 (fun e => h2 (hF k e))⟩
theorem Chg.below {B : Nat} (h : Chg F w w') (hF : ∀ k, F k → B ≤ k) (hB : B ≤ w.heap.size) : Below B w w' :=
  ⟨h.os, h.tape, h.output, h.size, fun k hk => h.block k (Nat.lt_of_lt_of_le hk hB) (fun e => Nat.not_le_of_lt hk (hF k e))⟩
theorem own_same {base : Nat} {e : TypeId} {s : Nat} {v : Value} {n : Nat} {xs : List Value} (h : w.ownsRow base e s v n xs) (hk : ∀ g, v.ownBlock = some g → w'.heap[g]? = w.heap[g]?) : w'.ownsRow base e s v n xs := by
  obtain ⟨h1, h2⟩ := h
  refine ⟨h1, ?_⟩
  rcases h2 with h2 | ⟨g, cap, cur, rfl, hb, hg, r⟩
  · exact .inl h2
  · exact .inr ⟨g, cap, cur, rfl, hb, (hk g rfl).trans hg, r⟩
theorem map_same {H : Type} {P : Program} {k : TypeId} {R : Value → Option (DataW H × List MemPlace)} {b n : Nat} {D : DataW H} (h : w.ownsMap P k R b n D) (hk : w'.heap[b]? = w.heap[b]?) : w'.ownsMap P k R b n D := by
  obtain ⟨es, c, hb, r⟩ := h; exact ⟨es, c, hk.trans hb, r⟩
theorem ValsIn.same {A : Option Addr} {l : List Val} (h : ValsIn w A l) (hs : w.heap.size ≤ w'.heap.size) (hk : ∀ x, A = some x → w'.heap[x.block]? = w.heap[x.block]?) : ValsIn w' A l := fun j hj => by
  obtain ⟨b, off, rfl, hb, hc⟩ := h j hj
  have e := hk _ rfl
  refine ⟨b, off, rfl, Nat.lt_of_lt_of_le hb hs, fun i hi => ?_⟩
  obtain ⟨c0, c1, c2, c3⟩ := hc i hi
  have q : ∀ o, w'.cell? ⟨b, o, none⟩ = w.cell? ⟨b, o, none⟩ := fun o => World.cell?_of_block (a := ⟨b, o, none⟩) e
  exact ⟨(q _).trans c0, (q _).trans c1, (q _).trans c2, (q _).trans c3⟩
end
theorem own_lower {w : World} {base base' : Nat} {e : TypeId} {size : Nat} {v : Value} {n : Nat} {xs : List Value} (h : w.ownsRow base e size v n xs) (hb : base' ≤ base) : w.ownsRow base' e size v n xs := by
  obtain ⟨h1, h2⟩ := h
  refine ⟨h1, ?_⟩
  rcases h2 with h2 | ⟨g, cap, cur, h1, h2, h3⟩
  · exact .inl h2
  · exact .inr ⟨g, cap, cur, h1, Nat.le_trans hb h2, h3⟩
theorem own_lt9 {w : World} {base : Nat} {e : TypeId} {s n : Nat} {v : Value} {xs : List Value} (h : w.ownsRow base e s v n xs) : ∀ g, v.ownBlock = some g → g < w.heap.size := by
  intro g hg
  rcases h.2 with ⟨rfl, _⟩ | ⟨g2, cap, cur, rfl, _, hgg, _⟩
  · simp [Value.ownBlock] at hg
  · simp [Value.ownBlock] at hg; subst hg; exact (Array.getElem?_eq_some_iff.1 hgg).1
theorem own_form9 {w : World} {base : Nat} {e : TypeId} {size : Nat} {v : Value} {n : Nat} {xs : List Value} (h : w.ownsRow base e size v n xs) : ∃ A cap, v = .slice A n cap := by
  rcases h.2 with ⟨rfl, rfl⟩ | ⟨g, cap, cur, rfl, _⟩
  · exact ⟨none, 0, rfl⟩
  · exact ⟨_, _, rfl⟩
theorem own_some9 {w : World} {base : Nat} {e : TypeId} {s n : Nat} {v : Value} {xs : List Value} (h : w.ownsRow base e s v n xs) (hn : 0 < n) : ∃ g cap, v = .slice (some ⟨g, 0, none⟩) n cap := by
  rcases h.2 with ⟨_, e⟩ | ⟨g, cap, cur, rfl, hb, _⟩
  · omega
  · exact ⟨g, cap, rfl⟩
theorem own_nil9 {w : World} {base : Nat} {e : TypeId} {s n c : Nat} {A : Option Addr} {xs : List Value} (h : w.ownsRow base e s (.slice A n c) n xs) : A = none → c = 0 ∧ n = 0 := fun e => by
  rcases h.2 with ⟨e2, e3⟩ | ⟨g9, cp, cur, e2, _⟩
  · injection e2 with _ _ e4; exact ⟨e4, e3⟩
  · injection e2 with e4; rw [e] at e4; cases e4
theorem Blk.chg9 {w w' : World} {F : Nat → Prop} {g : Nat} {c : Array Value} {t : TypeId} (h : Blk w g c t) (hc : Chg F w w') (hF : ¬ F g) : Blk w' g c t := (hc.block g h.lt hF).trans h
theorem bne9 {a b : Int} (h : a ≠ b) : (a == b) = false := by simpa using h
end Go.Proofs.Ytijegkiapbmekaa
