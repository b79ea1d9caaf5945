/- Package row: the memory of a store. -/
import Derived.Test.YtilpgojkbgbinaaFree
import Derived.Test.YtilpgojkbgbinaaScopy
import Derived.Maps.OwnSet
set_option maxRecDepth 100000
set_option linter.unusedVariables false
set_option linter.unusedSimpArgs false
namespace Go.Proofs.Ytilpgojkbgbinaa
open Go.RowKit
open Go.Maps (has size)

theorem wp_named9 {P : Program} {c : Code} {Q : Exit → Act → World → Prop} {a : Act} {w : World} {R : World → Prop} (h : R w) (k : ∀ W, R W → Code.wp P c Q a W) : Code.wp P c Q a w := k w h
/-- blocks outside F are as they were -/
structure Chg (F : Nat → Prop) (w w' : World) : Prop where
  os : w'.os = w.os
  tape : w'.tape = w.tape
  output : w'.output = w.output
  size : w.heap.size ≤ w'.heap.size
  block : ∀ k, k < w.heap.size → ¬ F k → w'.heap[k]? = w.heap[k]?
/-- F' has what F has, and new blocks -/
def Grew (w : World) (F F' : Nat → Prop) : Prop := (∀ k, F k → F' k) ∧ ∀ k, F' k → F k ∨ w.heap.size ≤ k
section
variable {F F' : Nat → Prop} {w w1 w' : World}
theorem Grew.refl : Grew w F F := ⟨fun _ h => h, fun _ h => .inl h⟩
theorem Grew.trans {F2 : Nat → Prop} (h : Grew w F F') (hs : w.heap.size ≤ w1.heap.size) (k : Grew w1 F' F2) : Grew w F F2 :=
  ⟨fun x hx => k.1 x (h.1 x hx), fun x hx => by
    rcases k.2 x hx with q | q
    · exact h.2 x q
    · exact .inr (Nat.le_trans hs q)⟩
theorem Chg.refl : Chg F w w := ⟨rfl, rfl, rfl, Nat.le_refl _, fun _ _ _ => rfl⟩
theorem Chg.trans (h : Chg F w w1) (hg : Grew w F F') (k : Chg F' w1 w') : Chg F w w' :=
  ⟨k.os.trans h.os, k.tape.trans h.tape, k.output.trans h.output, Nat.le_trans h.size k.size, fun i h1 h2 =>
    (k.block i (Nat.lt_of_lt_of_le h1 h.size) (fun e => by
      rcases hg.2 i e with q | q
      · exact h2 q
      · omega)).trans (h.block i h1 h2)⟩
theorem Chg.then (h : Chg F w w1) (k : Chg F w1 w') : Chg F w w' := h.trans Grew.refl k
theorem Chg.of_below (h : Below w.heap.size w w') : Chg F w w' := ⟨h.os, h.tape, h.output, h.size, fun k hk _ => h.block k hk⟩
theorem Chg.of_grown {r : Option Nat} (h : w.grownBy w' r) (hr : ∀ g, r = some g → F g) : Chg F w w' :=
  ⟨h.os, h.tape, h.output, h.size, fun k hk hn => h.block k hk (fun e => hn (hr k e.symm))⟩
theorem Chg.of_keeps {p : Nat} {a : Option Nat} (h : Keeps p a w w') (hp : F p) (ha : ∀ g, a = some g → F g) : Chg F w w' :=
  ⟨h.os, h.tape, h.output, h.size, fun k hk hn => h.block k hk (fun e => hn (e ▸ hp)) (fun e => hn (ha k e.symm))⟩
theorem Chg.set (a : Addr) (u : Value) (ha : F a.block) : Chg F w (w.setCell a u) :=
  ⟨rfl, rfl, rfl, by simp [World.setCell], fun k _ hn => Below.heap_setCell w a u k (fun e => hn (e ▸ ha))⟩
theorem Chg.alloc (o : Obj) : Chg F w (w.alloc o) := Chg.of_below ((Below.refl _ _).alloc (Nat.le_refl _) o)
theorem Chg.drew : Chg F w w.drew := Chg.of_below (Below.drew (Below.refl _ _))
theorem Chg.more (x : Ext) : Chg F w (more w x) := Chg.of_below (more_below w x)
theorem Chg.mono (h : Chg F w w') (hF : ∀ k, F k → F' k) : Chg F' w w' := ⟨h.os, h.tape, h.output, h.size, fun k h1 h2 => h.block k h1 (fun e => h2 (hF k e))⟩
theorem Chg.below {B : Nat} (h : Chg F w w') (hF : ∀ k, F k → B ≤ k) (hB : B ≤ w.heap.size) : Below B w w' :=
  ⟨h.os, h.tape, h.output, h.size, fun k hk => h.block k (Nat.lt_of_lt_of_le hk hB) (fun e => Nat.not_le_of_lt hk (hF k e))⟩
theorem own_same {base : Nat} {e : TypeId} {s : Nat} {v : Value} {n : Nat} {xs : List Value} (h : w.ownsRow base e s v n xs) (hk : ∀ g, v.ownBlock = some g → w'.heap[g]? = w.heap[g]?) : w'.ownsRow base e s v n xs := by
  obtain ⟨h1, h2⟩ := h
  refine ⟨h1, ?_⟩
  rcases h2 with h2 | ⟨g, cap, cur, rfl, hb, hg, r⟩
  · exact .inl h2
  · exact .inr ⟨g, cap, cur, rfl, hb, (hk g rfl).trans hg, r⟩
theorem FreeAt.same {p : Nat} {a : Option Nat} {m : List Int} (h : FreeAt w p a m) (hp : w'.heap[p]? = w.heap[p]?) (ha : ∀ g, a = some g → w'.heap[g]? = w.heap[g]?) : FreeAt w' p a m := by
  obtain ⟨l, ⟨h1, h2, ⟨v, h3, h4, h5⟩, h6⟩, h7, h8⟩ := h
  exact ⟨l, ⟨h1, h2, ⟨v, hp.trans h3, h4, own_same h5 (fun g e => ha g (h4.symm.trans e))⟩, fun b o hm => by simp at hm⟩, h7, h8⟩
theorem FreeAt.pLt {p : Nat} {a : Option Nat} {m : List Int} (h : FreeAt w p a m) : p < w.heap.size := by
  obtain ⟨l, ⟨h1, h2, ⟨v, h3, h4, h5⟩, h6⟩, _⟩ := h; exact h3.lt
theorem FreeAt.aLt {p : Nat} {a : Option Nat} {m : List Int} (h : FreeAt w p a m) : ∀ g, a = some g → g < w.heap.size := by
  obtain ⟨l, ⟨h1, h2, ⟨v, h3, h4, h5⟩, h6⟩, _⟩ := h
  intro g hg
  subst h4
  rcases h5.2 with ⟨rfl, _⟩ | ⟨g2, cap, cur, rfl, _, hgg, _⟩
  · simp [Value.ownBlock] at hg
  · simp [Value.ownBlock] at hg; subst hg; exact (Array.getElem?_eq_some_iff.1 hgg).1
theorem FreeAt.ap {p : Nat} {a : Option Nat} {m : List Int} (h : FreeAt w p a m) : a ≠ some p := by
  obtain ⟨l, ⟨h1, h2, _⟩, _⟩ := h; exact h2
theorem map_same {P : Program} {k : TypeId} {R : Value → Option (DataW Unit × List MemPlace)} {b n : Nat} {D : DataW Unit} (h : w.ownsMap P k R b n D) (hk : w'.heap[b]? = w.heap[b]?) : w'.ownsMap P k R b n D := by
  obtain ⟨es, c, hb, r⟩ := h; exact ⟨es, c, hk.trans hb, r⟩
theorem ValsIn.same {A : Option Addr} {l : List Val} (h : ValsIn w A l) (hs : w.heap.size ≤ w'.heap.size) (hk : ∀ x, A = some x → w'.heap[x.block]? = w.heap[x.block]?) : ValsIn w' A l := fun j hj => by
  obtain ⟨b, off, rfl, hb, hc⟩ := h j hj
  have e := hk _ rfl
  refine ⟨b, off, rfl, Nat.lt_of_lt_of_le hb hs, fun i hi => ?_⟩
  obtain ⟨c0, c1, c2, c3⟩ := hc i hi
  have q : ∀ o, w'.cell? ⟨b, o, none⟩ = w.cell? ⟨b, o, none⟩ := fun o => World.cell?_of_block (a := ⟨b, o, none⟩) e
  exact ⟨(q _).trans c0, (q _).trans c1, (q _).trans c2, (q _).trans c3⟩
end
/-- three cells of a row of structs written -/
theorem rowC_three {α : Type} {c : α → List Value} (hc : ∀ a, (c a).length = 3) {x0 x1 x2 : Value} {y : α} (hy : c y = [x0, x1, x2]) : ∀ (l : List α) (i : Nat), i < l.length → setsL (rowC c l) [(i * 3, x0), (i * 3 + 1, x1), (i * 3 + 2, x2)] = rowC c (l.set i y)
  | [], i, h => by simp at h
  | a :: l, 0, h => by
    have e := hc a
    unfold rowC
    rw [List.flatMap_cons, List.set_cons_zero, List.flatMap_cons, hy]
    match hca : c a, e with
    | [u0, u1, u2], _ => simp [setsL]
  | a :: l, i + 1, h => by
    have ih := rowC_three hc hy l i (by simpa using h)
    unfold rowC setsL at *
    simp only [setsL] at *
    rw [List.flatMap_cons, List.set_cons_succ, List.flatMap_cons, ← ih]
    rw [List.set_append_right _ _ (by rw [hc]; omega), List.set_append_right _ _ (by rw [hc]; omega), List.set_append_right _ _ (by rw [hc]; omega), hc]
    rw [show (i + 1) * 3 - 3 = i * 3 by omega, show (i + 1) * 3 + 1 - 3 = i * 3 + 1 by omega, show (i + 1) * 3 + 2 - 3 = i * 3 + 2 by omega]
/-- a slot -/
structure Slt where
  id : Int
  ver : Int
  A : Option Addr
  cap : Nat
  vals : List Val
def sltC (s : Slt) : List Value := [.int .i64 s.id, .int .i64 s.ver, .slice s.A s.vals.length s.cap]
theorem sltC_len (s : Slt) : (sltC s).length = 3 := rfl
theorem sltC_one (s : Slt) : ∀ u ∈ sltC s, u.oneCell' = true := by
  intro u hu; simp [sltC] at hu; rcases hu with rfl | rfl | rfl <;> rfl
abbrev slotsV (sl : Option Addr) (n cap : Nat) : Value := .slice sl n cap
/-- the values of a slot lie in blocks of F that none of these is -/
structure SV (w : World) (F : Nat → Prop) (C : Nat → Prop) (s : Slt) : Prop where
  nil : s.A = none → s.cap = 0 ∧ s.vals.length = 0
  len : s.vals.length ≤ 1000
  vals : ValsIn w s.A s.vals
  at_ : ∀ x, s.A = some x → F x.block ∧ ¬ C x.block ∧ x.block < w.heap.size
/-- the blocks that a store writes -/
def Core (p : Nat) (sb : Option Nat) (M pf : Nat) (a : Option Nat) (k : Nat) : Prop := k = p ∨ sb = some k ∨ k = M ∨ k = pf ∨ a = some k
structure SM (w : World) (F : Nat → Prop) (p : Nat) (sl : Option Addr) (cap : Nat) (S : List Slt) (M pf : Nat) (a : Option Nat) (m : List Int) (D : DataW Unit) (max next writes : Int) : Prop where
  box : Blk w p #[.slice sl S.length cap, .map (some M), .pointer (some ⟨pf, 0, none⟩), .int .i64 max, .int .i64 next, .int .i64 writes] 138
  row : w.ownsRow 0 63 3 (.slice sl S.length cap) S.length (rowC sltC S)
  mp : w.ownsMap Try.prog 2 (plainElem (H := Unit) Try.prog 3) M (size D) D
  free : FreeAt w pf a m
  vals : ∀ s ∈ S, SV w F (Core p (slotsV sl S.length cap).ownBlock M pf a) s
  hF : ∀ k, Core p (slotsV sl S.length cap).ownBlock M pf a k → F k
  Flt : ∀ k, F k → k < w.heap.size
  Mp : M ≠ p
  fp : pf ≠ p
  Mf : M ≠ pf
  ap : a ≠ some p
  aM : a ≠ some M
  sp : (slotsV sl S.length cap).ownBlock ≠ some p
  sM : (slotsV sl S.length cap).ownBlock ≠ some M
  sf : (slotsV sl S.length cap).ownBlock ≠ some pf
  sa : ∀ g, (slotsV sl S.length cap).ownBlock = some g → a ≠ some g
section
variable {w w' : World} {F F' G : Nat → Prop} {p : Nat} {sl : Option Addr} {cap : Nat} {S : List Slt} {M pf : Nat} {a : Option Nat} {m : List Int} {D : DataW Unit} {max next writes : Int}
theorem SM.mLt (h : SM w F p sl cap S M pf a m D max next writes) : M < w.heap.size := h.mp.lt
theorem SM.sLt (h : SM w F p sl cap S M pf a m D max next writes) : ∀ g, (slotsV sl S.length cap).ownBlock = some g → g < w.heap.size := by
  intro g hg
  rcases h.row.2 with ⟨e, _⟩ | ⟨g', cap', cur, e, _, hgg, _⟩
  · injection e with e; subst e; simp [slotsV, Value.ownBlock] at hg
  · injection e with e; subst e; simp [slotsV, Value.ownBlock] at hg; subst hg; exact (Array.getElem?_eq_some_iff.1 hgg).1
theorem SM.coreLt (h : SM w F p sl cap S M pf a m D max next writes) : ∀ k, Core p (slotsV sl S.length cap).ownBlock M pf a k → k < w.heap.size := by
  rintro k (rfl | e | rfl | rfl | e)
  · exact h.box.lt
  · exact h.sLt k e
  · exact h.mLt
  · exact h.free.pLt
  · exact h.free.aLt k e
theorem SV.same {C : Nat → Prop} {s : Slt} (h : SV w F C s) (hs : w.heap.size ≤ w'.heap.size) (hk : ∀ k, k < w.heap.size → F k → ¬ C k → w'.heap[k]? = w.heap[k]?) (hF : ∀ k, F k → F' k) {C' : Nat → Prop} (hC : ∀ k, k < w.heap.size → C' k → C k) : SV w' F' C' s :=
  ⟨h.nil, h.len, h.vals.same hs (fun x e => hk _ (h.at_ x e).2.2 (h.at_ x e).1 (h.at_ x e).2.1), fun x e => ⟨hF _ (h.at_ x e).1, fun c => (h.at_ x e).2.1 (hC _ (h.at_ x e).2.2 c), Nat.lt_of_lt_of_le (h.at_ x e).2.2 hs⟩⟩
theorem size_read {P : Program} {k : TypeId} {R : Value → Option (DataW Unit × List MemPlace)} {b n : Nat} (h : w.ownsMap P k R b n D) : w.ownsMap P k R b (size D) D := by
  obtain ⟨es, c, hb, F, hn, rfl⟩ := h
  refine ⟨es, c, hb, F, ?_, rfl⟩
  have : size (DataW.map ((es.toList.map (WideElems.rg P k R)).foldr DataW.insert [])) = es.size := length_read es
  rw [this]; exact Nat.le_refl _
/-- what changes elsewhere -/
theorem SM.beside (h : SM w F p sl cap S M pf a m D max next writes) (hc : Chg G w w') (hG : ∀ k, F k → k < w.heap.size → ¬ G k) : SM w' F p sl cap S M pf a m D max next writes := by
  have hb : ∀ k, k < w.heap.size → F k → w'.heap[k]? = w.heap[k]? := fun k hk hf => hc.block k hk (hG k hf hk)
  have hcore : ∀ k, Core p (slotsV sl S.length cap).ownBlock M pf a k → w'.heap[k]? = w.heap[k]? := fun k hk => hb k (h.coreLt k hk) (h.hF k hk)
  exact { h with
    box := (hcore p (.inl rfl)).trans h.box
    row := own_same h.row (fun g e => hcore g (.inr (.inl e)))
    mp := map_same h.mp (hcore M (.inr (.inr (.inl rfl))))
    free := h.free.same (hcore pf (.inr (.inr (.inr (.inl rfl))))) (fun g e => hcore g (.inr (.inr (.inr (.inr e)))))
    vals := fun s hs => (h.vals s hs).same hc.size (fun k hk hf _ => hb k hk hf) (fun _ h => h) (fun _ _ h => h)
    Flt := fun k hk => Nat.lt_of_lt_of_le (h.Flt k hk) hc.size }
theorem SM.below (h : SM w F p sl cap S M pf a m D max next writes) (hc : Below w.heap.size w w') : SM w' F p sl cap S M pf a m D max next writes :=
  h.beside (G := fun _ => False) (Chg.of_below hc) (fun _ _ _ h => h)
theorem SM.widen (h : SM w F p sl cap S M pf a m D max next writes) (hF : ∀ k, F k → F' k) (hlt : ∀ k, F' k → k < w.heap.size) : SM w F' p sl cap S M pf a m D max next writes :=
  { h with
    vals := fun s hs => (h.vals s hs).same (Nat.le_refl _) (fun _ _ _ _ => rfl) hF (fun _ _ h => h)
    hF := fun k hk => hF k (h.hF k hk)
    Flt := hlt }
/-- a number of the box turned -/
theorem SM.next' (h : SM w F p sl cap S M pf a m D max next writes) (n : Int) : SM (w.setCell ⟨p, 4, none⟩ (.int .i64 n)) F p sl cap S M pf a m D max n writes ∧ Chg F w (w.setCell ⟨p, 4, none⟩ (.int .i64 n)) := by
  have hb : ∀ k, k ≠ p → (w.setCell ⟨p, 4, none⟩ (.int .i64 n)).heap[k]? = w.heap[k]? := fun k hk => Below.heap_setCell w _ _ k hk
  refine ⟨{ h with box := h.box.set 4 _, row := own_same h.row (fun g e => hb g (fun e2 => h.sp (e2 ▸ e))), mp := map_same h.mp (hb M h.Mp), free := h.free.same (hb pf h.fp) (fun g e => hb g (fun e2 => h.ap (e2 ▸ e))), vals := fun s hs => (h.vals s hs).same (by simp [World.setCell]) (fun k _ _ hn => hb k (fun e => hn (.inl e))) (fun _ h => h) (fun _ _ h => h), Flt := fun k hk => Nat.lt_of_lt_of_le (h.Flt k hk) (by simp [World.setCell]) }, Chg.set _ _ (h.hF p (.inl rfl))⟩
theorem SM.writes' (h : SM w F p sl cap S M pf a m D max next writes) (n : Int) : SM (w.setCell ⟨p, 5, none⟩ (.int .i64 n)) F p sl cap S M pf a m D max next n ∧ Chg F w (w.setCell ⟨p, 5, none⟩ (.int .i64 n)) := by
  have hb : ∀ k, k ≠ p → (w.setCell ⟨p, 5, none⟩ (.int .i64 n)).heap[k]? = w.heap[k]? := fun k hk => Below.heap_setCell w _ _ k hk
  refine ⟨{ h with box := h.box.set 5 _, row := own_same h.row (fun g e => hb g (fun e2 => h.sp (e2 ▸ e))), mp := map_same h.mp (hb M h.Mp), free := h.free.same (hb pf h.fp) (fun g e => hb g (fun e2 => h.ap (e2 ▸ e))), vals := fun s hs => (h.vals s hs).same (by simp [World.setCell]) (fun k _ _ hn => hb k (fun e => hn (.inl e))) (fun _ h => h) (fun _ _ h => h), Flt := fun k hk => Nat.lt_of_lt_of_le (h.Flt k hk) (by simp [World.setCell]) }, Chg.set _ _ (h.hF p (.inl rfl))⟩
/-- a slot written -/
theorem SM.slot (h : SM w F p sl cap S M pf a m D max next writes) {g : Nat} (hg : sl = some ⟨g, 0, none⟩) {i : Nat} (hi : i < S.length) (s : Slt) (hs : SV w F (Core p (slotsV sl S.length cap).ownBlock M pf a) s) :
    SM (((w.setCell ⟨g, i * 3, none⟩ (.int .i64 s.id)).setCell ⟨g, i * 3 + 1, none⟩ (.int .i64 s.ver)).setCell ⟨g, i * 3 + 2, none⟩ (.slice s.A s.vals.length s.cap)) F p sl cap (S.set i s) M pf a m D max next writes ∧ Chg F w (((w.setCell ⟨g, i * 3, none⟩ (.int .i64 s.id)).setCell ⟨g, i * 3 + 1, none⟩ (.int .i64 s.ver)).setCell ⟨g, i * 3 + 2, none⟩ (.slice s.A s.vals.length s.cap)) := by
  subst hg
  have hown : (slotsV (some ⟨g, 0, none⟩) S.length cap).ownBlock = some g := rfl
  have hw : ((w.setCell ⟨g, i * 3, none⟩ (.int .i64 s.id)).setCell ⟨g, i * 3 + 1, none⟩ (.int .i64 s.ver)).setCell ⟨g, i * 3 + 2, none⟩ (.slice s.A s.vals.length s.cap) = puts w g [(i * 3, .int .i64 s.id), (i * 3 + 1, .int .i64 s.ver), (i * 3 + 2, .slice s.A s.vals.length s.cap)] := rfl
  rw [hw]
  have hb : ∀ k, k ≠ g → (puts w g [(i * 3, .int .i64 s.id), (i * 3 + 1, .int .i64 s.ver), (i * 3 + 2, .slice s.A s.vals.length s.cap)]).heap[k]? = w.heap[k]? := fun k hk => puts_other g k hk _ w
  have hsz := puts_size g [(i * 3, Value.int .i64 s.id), (i * 3 + 1, .int .i64 s.ver), (i * 3 + 2, .slice s.A s.vals.length s.cap)] w
  have hl : (S.set i s).length = S.length := List.length_set
  have hrow := puts_own (v := slotsV (some ⟨g, 0, none⟩) S.length cap) rfl [(i * 3, Value.int .i64 s.id), (i * 3 + 1, .int .i64 s.ver), (i * 3 + 2, .slice s.A s.vals.length s.cap)] w _ (by
    intro k u hm
    simp only [List.mem_cons, Prod.mk.injEq, List.not_mem_nil, or_false] at hm
    omega) h.row
  rw [rowC_three sltC_len (y := s) rfl S i hi] at hrow
  obtain ⟨e1, e2, e3⟩ := puts_rest g [(i * 3, Value.int .i64 s.id), (i * 3 + 1, .int .i64 s.ver), (i * 3 + 2, .slice s.A s.vals.length s.cap)] w
  refine ⟨⟨?_, ?_, map_same h.mp (hb M (fun e => h.sM (by rw [hown, e]))), h.free.same (hb pf (fun e => h.sf (by rw [hown, e]))) (fun k e => hb k (fun e2 => h.sa g hown (e2 ▸ e))), ?_, ?_, fun k hk => by rw [hsz]; exact h.Flt k hk, h.Mp, h.fp, h.Mf, h.ap, h.aM, ?_, ?_, ?_, ?_⟩, e1, e2, e3, by rw [hsz]; exact Nat.le_refl _, fun k _ hn => hb k (fun e => hn (h.hF k (.inr (.inl (by rw [hown, e])))))⟩
  · rw [hl]; exact (hb p (fun e => h.sp (by rw [hown, e]))).trans h.box
  · rw [hl]; exact hrow
  · intro x hx
    rw [hl]
    have sv : SV w F (Core p (slotsV (some ⟨g, 0, none⟩) S.length cap).ownBlock M pf a) x := by
      rcases List.mem_or_eq_of_mem_set hx with q | rfl
      · exact h.vals x q
      · exact hs
    exact sv.same (by rw [hsz]; exact Nat.le_refl _) (fun k _ _ hn => hb k (fun e => hn (.inr (.inl (by rw [hown, e]))))) (fun _ h => h) (fun _ _ h => h)
  · rw [hl]; exact h.hF
  · rw [hl]; exact h.sp
  · rw [hl]; exact h.sM
  · rw [hl]; exact h.sf
  · rw [hl]; exact h.sa
/-- the map written -/
theorem SM.mapped (h : SM w F p sl cap S M pf a m D max next writes) (hg : w.grownBy w' (some M)) {D' : DataW Unit} (hD : w'.ownsMap Try.prog 2 (plainElem (H := Unit) Try.prog 3) M (size D') D') : SM w' F p sl cap S M pf a m D' max next writes ∧ Chg F w w' := by
  have hb : ∀ k, k < w.heap.size → k ≠ M → w'.heap[k]? = w.heap[k]? := fun k hk hn => hg.block k hk (fun e => hn (by injection e))
  refine ⟨{ h with box := (hb p h.box.lt h.Mp.symm).trans h.box, row := own_same h.row (fun g e => hb g (h.sLt g e) (fun e2 => h.sM (e2 ▸ e))), mp := hD, free := h.free.same (hb pf h.free.pLt h.Mf.symm) (fun g e => hb g (h.free.aLt g e) (fun e2 => h.aM (e2 ▸ e))), vals := fun s hs => (h.vals s hs).same hg.size (fun k hk _ hn => hb k hk (fun e => hn (.inr (.inr (.inl e))))) (fun _ h => h) (fun _ _ h => h), Flt := fun k hk => Nat.lt_of_lt_of_le (h.Flt k hk) hg.size }, Chg.of_grown hg (fun g e => by injection e with e; exact h.hF g (.inr (.inr (.inl e.symm))))⟩
/-- the free numbers turned -/
theorem SM.freed (h : SM w F p sl cap S M pf a m D max next writes) (hk' : Keeps pf a w w') {a' : Option Nat} {m' : List Int} (hf : Fresh w a a') (hm : FreeAt w' pf a' m') :
    SM w' (fun k => F k ∨ a' = some k) p sl cap S M pf a' m' D max next writes ∧ Chg F w w' ∧ Grew w F (fun k => F k ∨ a' = some k) := by
  have hb : ∀ k, k < w.heap.size → k ≠ pf → a ≠ some k → w'.heap[k]? = w.heap[k]? := fun k h1 h2 h3 => hk'.block k h1 h2 (fun e => h3 e.symm)
  have hnew : ∀ k, k < w.heap.size → a ≠ some k → a' ≠ some k := fun k h1 h2 e => by
    rcases hf with q | ⟨j, q, hj⟩
    · exact h2 (q ▸ e)
    · rw [q] at e; injection e with e; omega
  refine ⟨⟨(hb p h.box.lt h.fp.symm h.ap).trans h.box, own_same h.row (fun g e => hb g (h.sLt g e) (fun e2 => h.sf (e2 ▸ e)) (h.sa g e)), map_same h.mp (hb M h.mLt h.Mf h.aM), hm, fun s hs => (h.vals s hs).same hk'.size (fun k h1 _ hn => hb k h1 (fun e => hn (.inr (.inr (.inr (.inl e))))) (fun e => hn (.inr (.inr (.inr (.inr e)))))) (fun _ h => .inl h) ?_, ?_, fun k hk => by
      rcases hk with q | q
      · exact Nat.lt_of_lt_of_le (h.Flt k q) hk'.size
      · exact hm.aLt k q, h.Mp, h.fp, h.Mf, hnew p h.box.lt h.ap, hnew M h.mLt h.aM, h.sp, h.sM, h.sf, fun g e => hnew g (h.sLt g e) (h.sa g e)⟩, ?_, ?_⟩
  · rintro k hk2 (q | q | q | q | q)
    · exact .inl q
    · exact .inr (.inl q)
    · exact .inr (.inr (.inl q))
    · exact .inr (.inr (.inr (.inl q)))
    · refine .inr (.inr (.inr (.inr ?_)))
      apply Classical.byContradiction
      intro hn
      exact hnew k hk2 hn q
  · rintro k (q | q | q | q | q)
    · exact .inl (h.hF k (.inl q))
    · exact .inl (h.hF k (.inr (.inl q)))
    · exact .inl (h.hF k (.inr (.inr (.inl q))))
    · exact .inl (h.hF k (.inr (.inr (.inr (.inl q)))))
    · exact .inr q
  · exact Chg.of_keeps hk' (h.hF pf (.inr (.inr (.inr (.inl rfl))))) (fun g e => h.hF g (.inr (.inr (.inr (.inr e)))))
  · refine ⟨fun k hk => .inl hk, ?_⟩
    rintro k (q | q)
    · exact .inl q
    · rcases hf with e | ⟨j, e, hj⟩
      · exact .inl (h.hF k (.inr (.inr (.inr (.inr (e ▸ q))))))
      · rw [e] at q; injection q with q; exact .inr (q ▸ hj)
/-- a slot behind the others: the row grown, laid into the box -/
theorem SM.slotted (h : SM w F p sl cap S M pf a m D max next writes) {W0 w1 : World} (hb0 : Below w.heap.size w W0) (grow : W0.grownBy w1 (slotsV sl S.length cap).ownBlock) {g cap' : Nat} {s : Slt} (hat : (slotsV sl S.length cap).ownBlock = some g ∨ w.heap.size ≤ g)
    (own : w1.ownsRow 0 63 3 (.slice (some ⟨g, 0, none⟩) (S.length + 1) cap') (S.length + 1) (rowC sltC S ++ sltC s)) (hs : s.A = none ∧ s.cap = 0 ∧ s.vals = []) :
    SM (w1.setCell ⟨p, 0, none⟩ (.slice (some ⟨g, 0, none⟩) (S.length + 1) cap')) (fun k => F k ∨ k = g) p (some ⟨g, 0, none⟩) cap' (S ++ [s]) M pf a m D max next writes ∧ Chg F w (w1.setCell ⟨p, 0, none⟩ (.slice (some ⟨g, 0, none⟩) (S.length + 1) cap')) ∧ Grew w F (fun k => F k ∨ k = g) := by
  have hp := h.box.lt
  have old : ∀ k, k < w.heap.size → (slotsV sl S.length cap).ownBlock ≠ some k → w1.heap[k]? = w.heap[k]? := fun k hk hka => (grow.block k (Nat.lt_of_lt_of_le hk hb0.size) (Ne.symm hka)).trans (hb0.block k hk)
  have hne : ∀ k, k < w.heap.size → (slotsV sl S.length cap).ownBlock ≠ some k → g ≠ k := fun k hk hka e => by
    rcases hat with q | q
    · exact hka (e ▸ q)
    · omega
  have hgp : g ≠ p := hne p hp h.sp
  have hset : ∀ k, k ≠ p → (w1.setCell ⟨p, 0, none⟩ (.slice (some ⟨g, 0, none⟩) (S.length + 1) cap')).heap[k]? = w1.heap[k]? := fun k hk => Below.heap_setCell w1 _ _ k hk
  have hl : (S ++ [s]).length = S.length + 1 := by simp
  have hsz : w.heap.size ≤ (w1.setCell ⟨p, 0, none⟩ (.slice (some ⟨g, 0, none⟩) (S.length + 1) cap')).heap.size := by
    have := hb0.size; have := grow.size; simp [World.setCell]; omega
  have hblk : Blk w1 p #[.slice sl S.length cap, .map (some M), .pointer (some ⟨pf, 0, none⟩), .int .i64 max, .int .i64 next, .int .i64 writes] 138 := (old p hp h.sp).trans h.box
  have hval : ∀ x ∈ S, SV (w1.setCell ⟨p, 0, none⟩ (.slice (some ⟨g, 0, none⟩) (S.length + 1) cap')) (fun k => F k ∨ k = g) (Core p (slotsV (some ⟨g, 0, none⟩) (S ++ [s]).length cap').ownBlock M pf a) x := fun x hx => by
    refine (h.vals x hx).same hsz (fun k hk _ hn => (hset k (fun e => hn (.inl e))).trans (old k hk (fun e => hn (.inr (.inl e))))) (fun _ h => .inl h) ?_
    rintro k hk (q | q | q | q | q)
    · exact .inl q
    · have q2 : g = k := by injection q
      rcases hat with e | e
      · exact .inr (.inl (q2 ▸ e))
      · omega
    · exact .inr (.inr (.inl q))
    · exact .inr (.inr (.inr (.inl q)))
    · exact .inr (.inr (.inr (.inr q)))
  refine ⟨⟨?_, ?_, map_same h.mp ((hset M h.Mp).trans (old M h.mLt h.sM)), h.free.same ((hset pf h.fp).trans (old pf h.free.pLt h.sf)) (fun k e => (hset k (fun e2 => h.ap (e2 ▸ e))).trans (old k (h.free.aLt k e) (fun e2 => h.sa k e2 e))), ?_, ?_, ?_, h.Mp, h.fp, h.Mf, h.ap, h.aM, ?_, ?_, ?_, ?_⟩, ⟨grow.os.trans hb0.os, grow.tape.trans hb0.tape, grow.output.trans hb0.output, hsz, fun k hk hn => ?_⟩, ?_⟩
  · rw [hl]; exact hblk.set 0 _
  · rw [hl, rowC_append, rowC_single]
    exact own_same own (fun k e => hset k (fun e2 => hgp (by injection e with e; exact e.trans e2)))
  · intro x hx
    rcases List.mem_append.1 hx with q | q
    · exact hval x q
    · simp at q
      subst q
      obtain ⟨q1, q2, q3⟩ := hs
      exact ⟨fun _ => ⟨q2, by rw [q3]; rfl⟩, by rw [q3]; simp, by rw [q3]; exact fun j hj => by simp at hj, fun y e => by rw [q1] at e; cases e⟩
  · rintro k (q | q | q | q | q)
    · exact .inl (h.hF k (.inl q))
    · exact .inr (by injection q with q; exact q.symm)
    · exact .inl (h.hF k (.inr (.inr (.inl q))))
    · exact .inl (h.hF k (.inr (.inr (.inr (.inl q)))))
    · exact .inl (h.hF k (.inr (.inr (.inr (.inr q)))))
  · rintro k (q | q)
    · exact Nat.lt_of_lt_of_le (h.Flt k q) hsz
    · rcases own.2 with ⟨e, _⟩ | ⟨g2, cp, cur, e, _, hgg, _⟩
      · cases e
      · injection e with e; injection e with e; injection e with e; subst e; rw [q]; have := (Array.getElem?_eq_some_iff.1 hgg).1; simpa [World.setCell] using this
  · intro e; injection e with e; exact hgp e
  · intro e; injection e with e; exact hne M h.mLt h.sM e
  · intro e; injection e with e; exact hne pf h.free.pLt h.sf e
  · intro k e e2
    have e3 : g = k := by injection e
    exact hne k (h.free.aLt k e2) (fun q => h.sa k q e2) e3
  · exact (hset k (fun e => hn (h.hF k (.inl e)))).trans (old k hk (fun e => hn (h.hF k (.inr (.inl e)))))
  · refine ⟨fun k hk => .inl hk, ?_⟩
    rintro k (q | q)
    · exact .inl q
    · rcases hat with e | e
      · exact .inl (h.hF k (.inr (.inl (q ▸ e))))
      · exact .inr (q ▸ e)
end
end Go.Proofs.Ytilpgojkbgbinaa
