/- Both stores: what each call of one of them leaves. -/
import Derived.Test.YtilpgojkbgbinaaAgree
import Derived.Test.YtilpgojkbgbinaaRef9R
set_option maxRecDepth 100000
set_option linter.unusedVariables false
set_option linter.unusedSimpArgs false
namespace Go.Proofs.Ytilpgojkbgbinaa
open Go.RowKit
open Go.Maps (has size Keyed int_keyed keyOf_int_mk)
/-- both stores behind w0: the code's holds g, the document's holds h; the blocks V are as they were at wV -/
def Mid (w0 w wV : World) (V : Nat → Prop) (p pr : Nat) (mx : Int) (g : Int → Option Row9) (n : Nat) (nx wr : Int) (h : Int → Option Row9) (m : Nat) (nr : Int) : Prop :=
  ∃ X G A cap L, StI X w0 w p g n mx nx wr ∧ RM w pr G A cap L mx nr ∧ Agree h L ∧ L.length = m ∧ (∀ k, G k → X k) ∧ (∀ k, V k → X k ∧ ¬ G k) ∧ (∀ k, X k → w0.heap.size ≤ k) ∧ ∀ k, V k → w.heap[k]? = wV.heap[k]?
section
variable {w0 w w' wV : World} {V : Nat → Prop} {p pr : Nat} {mx : Int} {g g' h h' : Int → Option Row9} {n n' m m' : Nat} {nx nx' wr wr' nr nr' : Int} {f : FuncId} {args : Array Value} {ret : Value}
theorem StI.wrote9 {X Y : Nat → Prop} (h : StI X w0 w p g n mx nx wr) (hc : Chg X w w') (hX : ∀ k, X k → w0.heap.size ≤ k) (hY : ∀ k, Y k → X k ∨ (w.heap.size ≤ k ∧ k < w'.heap.size)) : StI Y w0 w' p g n mx nx wr := by
  obtain ⟨F, h1, h2, h3, h4⟩ := h
  refine ⟨F, h1.beside hc (fun k hk hl c => (h4 k c).2 hk), h2.trans (hc.below hX h2.size), h3, fun k hk => ?_⟩
  rcases hY k hk with q | ⟨q1, q2⟩
  · exact ⟨Nat.lt_of_lt_of_le (h4 k q).1 hc.size, (h4 k q).2⟩
  · exact ⟨q2, fun c => by have := h1.Flt k c; omega⟩
theorem Mid.bel (M : Mid w0 w wV V p pr mx g n nx wr h m nr) : Below w0.heap.size w0 w := by
  obtain ⟨X, G, A, cap, L, h1, _⟩ := M; exact h1.bel
theorem Mid.le (M : Mid w0 w wV V p pr mx g n nx wr h m nr) : (n : Int) ≤ mx ∧ mx ≤ 200 ∧ 1 ≤ nx := by
  obtain ⟨X, G, A, cap, L, h1, _⟩ := M; exact h1.le
theorem Mid.rng (M : Mid w0 w wV V p pr mx g n nx wr h m nr) : ∀ id, g id ≠ none → 1 ≤ id ∧ id < nx := by
  obtain ⟨X, G, A, cap, L, h1, _⟩ := M; exact h1.rng
theorem Mid.below (M : Mid w0 w wV V p pr mx g n nx wr h m nr) (hb : Below w.heap.size w w') : Mid w0 w' wV V p pr mx g n nx wr h m nr := by
  obtain ⟨X, G, A, cap, L, h1, h2, h3, h4, h5, h6, h7, h8⟩ := M
  obtain ⟨F, k1, k2, k3, k4⟩ := id h1
  exact ⟨X, G, A, cap, L, h1.below hb, h2.below hb, h3, h4, h5, h6, h7, fun k hk => (hb.block k (k4 k (h6 k hk).1).1).trans (h8 k hk)⟩
/-- other blocks of the statement's own: new ones -/
theorem Mid.fresh {V' : Nat → Prop} (M : Mid w0 w wV V p pr mx g n nx wr h m nr) (hb : Below w.heap.size w w') (hV : ∀ k, V' k → V k ∨ (w.heap.size ≤ k ∧ k < w'.heap.size)) : Mid w0 w' w' V' p pr mx g n nx wr h m nr := by
  obtain ⟨X, G, A, cap, L, h1, h2, h3, h4, h5, h6, h7, h8⟩ := M
  have hz := h1.bel.size
  exact ⟨fun k => X k ∨ V' k, G, A, cap, L, h1.own hb (fun k hk => hk.elim .inl (fun q => (hV k q).imp (fun r => (h6 k r).1) (fun r => r))), h2.below hb, h3, h4, fun k hk => .inl (h5 k hk), fun k hk => ⟨.inr hk, fun c => (hV k hk).elim (fun q => (h6 k q).2 c) (fun q => by have := h2.Glt k c; omega)⟩, fun k hk => hk.elim (h7 k) (fun q => (hV k q).elim (fun r => h7 k (h6 k r).1) (fun r => by omega)), fun k hk => rfl⟩
/-- the statement writes into its own block -/
theorem Mid.wrote (M : Mid w0 w wV V p pr mx g n nx wr h m nr) (hc : Chg V w w') : Mid w0 w' w' V p pr mx g n nx wr h m nr := by
  obtain ⟨X, G, A, cap, L, h1, h2, h3, h4, h5, h6, h7, h8⟩ := M
  exact ⟨X, G, A, cap, L, h1.wrote (hc.mono (fun k hk => (h6 k hk).1)) h7, h2.beside hc (fun k hk c => (h6 k c).2 hk), h3, h4, h5, h6, h7, fun k hk => rfl⟩
theorem Mid.keep (M : Mid w0 w wV V p pr mx g n nx wr h m nr) : ∀ k, V k → w.heap[k]? = wV.heap[k]? := by
  obtain ⟨X, G, A, cap, L, h1, h2, h3, h4, h5, h6, h7, h8⟩ := M
  exact h8
theorem Mid.rebase {V' : Nat → Prop} (M : Mid w0 w wV V p pr mx g n nx wr h m nr) (hV : ∀ k, V' k → V k) : Mid w0 w w V' p pr mx g n nx wr h m nr := by
  obtain ⟨X, G, A, cap, L, h1, h2, h3, h4, h5, h6, h7, h8⟩ := M
  exact ⟨X, G, A, cap, L, h1, h2, h3, h4, h5, fun k hk => h6 k (hV k hk), h7, fun k hk => rfl⟩
/-- a call of the code's store -/
theorem Mid.s (M : Mid w0 w wV V p pr mx g n nx wr h m nr) (C : ∀ F, StoreAt w p F g n mx nx wr → (∀ k, V k → ¬ F k) → Calls Try.prog f args w fun e w' => e = .returned ret ∧ ∃ F', StoreAt w' p F' g' n' mx nx' wr' ∧ Chg F w w' ∧ Grew w F F') :
    Calls Try.prog f args w fun e w' => e = .returned ret ∧ Mid w0 w' wV V p pr mx g' n' nx' wr' h m nr := by
  obtain ⟨X, G, A, cap, L, ⟨F, k1, k2, k3, k4⟩, h2, h3, h4, h5, h6, h7, h8⟩ := M
  refine (C F k1 (fun k hk => (k4 k (h6 k hk).1).2)).mono ?_
  rintro e w' ⟨rfl, F', q1, q2, q3⟩
  obtain ⟨r1, r2⟩ := StI.step (X := X) (w0 := w0) q1 q2 q3 k2 k3 k4
  exact ⟨rfl, X, G, A, cap, L, r1, h2.kept q2.size (fun k hk => r2 k (h5 k hk)), h3, h4, h5, h6, h7, fun k hk => (r2 k (h6 k hk).1).trans (h8 k hk)⟩
theorem Mid.s0 (M : Mid w0 w wV V p pr mx g n nx wr h m nr) (C : ∀ F, StoreAt w p F g n mx nx wr → (∀ k, V k → ¬ F k) → Calls Try.prog f args w fun e w' => e = .returned ret ∧ Below w.heap.size w w') :
    Calls Try.prog f args w fun e w' => e = .returned ret ∧ Mid w0 w' wV V p pr mx g n nx wr h m nr := by
  have M0 := M
  obtain ⟨X, G, A, cap, L, ⟨F, k1, k2, k3, k4⟩, h2, h3, h4, h5, h6, h7, h8⟩ := M
  exact (C F k1 (fun k hk => (k4 k (h6 k hk).1).2)).mono fun e w' ⟨h1, h2⟩ => ⟨h1, M0.below h2⟩
/-- a call of the document's -/
theorem Mid.r (M : Mid w0 w wV V p pr mx g n nx wr h m nr) (C : ∀ G A cap L, RM w pr G A cap L mx nr → Agree h L → L.length = m → Calls Try.prog f args w fun e w' => e = .returned ret ∧ ∃ G' A' cap' L', RM w' pr G' A' cap' L' mx nr' ∧ Agree h' L' ∧ L'.length = m' ∧ Chg (fun k => k = pr) w w' ∧ Grew w G G') :
    Calls Try.prog f args w fun e w' => e = .returned ret ∧ Mid w0 w' wV V p pr mx g n nx wr h' m' nr' := by
  obtain ⟨X, G, A, cap, L, h1, h2, h3, h4, h5, h6, h7, h8⟩ := M
  refine (C G A cap L h2 h3 h4).mono ?_
  rintro e w' ⟨rfl, G', A', cap', L', q1, q2, q3, q4, q5⟩
  have hXl : ∀ k, X k → k < w.heap.size := by obtain ⟨F, k1, k2, k3, k4⟩ := h1; exact fun k hk => (k4 k hk).1
  have hz := h1.bel.size
  have hnew : ∀ k, G' k → X k ∨ (w.heap.size ≤ k ∧ k < w'.heap.size) := fun k hk => (q5.2 k hk).imp (h5 k) (fun q => ⟨q, q1.Glt k hk⟩)
  refine ⟨rfl, fun k => X k ∨ G' k, G', A', cap', L', h1.wrote9 (q4.mono (fun k hk => by rw [hk]; exact h5 pr h2.hp)) h7 (fun k hk => hk.elim .inl (hnew k)), q1, q2, q3, fun k hk => .inr hk, fun k hk => ⟨.inl (h6 k hk).1, fun c => ?_⟩, fun k hk => hk.elim (h7 k) (fun q => (hnew k q).elim (h7 k) (fun r => by omega)), fun k hk => ?_⟩
  · rcases q5.2 k c with q | q
    · exact (h6 k hk).2 q
    · have := hXl k (h6 k hk).1; omega
  · exact (q4.block k (hXl k (h6 k hk).1) (fun e => (h6 k hk).2 (by rw [e]; exact h2.hp))).trans (h8 k hk)
theorem Mid.r0 (M : Mid w0 w wV V p pr mx g n nx wr h m nr) (C : ∀ G A cap L, RM w pr G A cap L mx nr → Agree h L → L.length = m → Calls Try.prog f args w fun e w' => e = .returned ret ∧ Below w.heap.size w w') :
    Calls Try.prog f args w fun e w' => e = .returned ret ∧ Mid w0 w' wV V p pr mx g n nx wr h m nr := by
  have M0 := M
  obtain ⟨X, G, A, cap, L, h1, h2, h3, h4, h5, h6, h7, h8⟩ := M
  exact (C G A cap L h2 h3 h4).mono fun e w' ⟨h1, h2⟩ => ⟨h1, M0.below h2⟩
/-- values of the statement's own: their block is V -/
structure OwnV (wV : World) (V : Nat → Prop) (vA : Option Addr) (vc : Nat) (l : List Val) : Prop where
  own : wV.ownsRow 0 103 4 (.slice vA l.length vc) l.length (cellsOf l)
  blk : ∀ k, (Value.slice vA l.length vc).ownBlock = some k → V k
  nil : vA = none → vc = 0 ∧ l.length = 0
  len : l.length ≤ 1000
theorem OwnV.vals {vA : Option Addr} {vc : Nat} {l : List Val} (o : OwnV wV V vA vc l) (M : Mid w0 w wV V p pr mx g n nx wr h m nr) : ValsIn w vA l ∧ ∀ F : Nat → Prop, (∀ k, V k → ¬ F k) → ∀ x, vA = some x → ¬ F x.block := by
  obtain ⟨X, G, A, cap, L, h1, h2, h3, h4, h5, h6, h7, h8⟩ := M
  have o2 := own_same o.own (fun k e => h8 k (o.blk k e))
  obtain ⟨A', cp, e, _, _, _, hv⟩ := own_vals o2
  injection e with e
  subst e
  exact ⟨hv, fun F hF x e => hF _ (o.blk _ (by subst e; rfl))⟩
section
variable {vA : Option Addr} {vc : Nat} {l : List Val} {id : Int} {ver : Int}
-- the code's store
theorem mid_ins_no (M : Mid w0 w wV V p pr mx g n nx wr h m nr) (o : OwnV wV V vA vc l) (hnx : nx < 9223372036854775808) (hn : mx ≤ (n : Int)) :
    Calls Try.prog 34 #[.pointer (some ⟨p, 0, none⟩), .slice vA l.length vc] w fun e w' => e = .returned (.tuple #[.int .i64 0, .int .i64 70]) ∧ Mid w0 w' wV V p pr mx g n nx wr h m nr :=
  M.s0 fun F k1 k2 => insert_no k1 vA vc l o.len o.nil (o.vals M).1 ((o.vals M).2 F k2) hnx hn
theorem mid_ins_ok (M : Mid w0 w wV V p pr mx g n nx wr h m nr) (o : OwnV wV V vA vc l) (hnx : nx + 1 < 9223372036854775808) (hw : -9223372036854775808 ≤ wr + 1 ∧ wr + 1 < 9223372036854775808) (hn : (n : Int) < mx) :
    Calls Try.prog 34 #[.pointer (some ⟨p, 0, none⟩), .slice vA l.length vc] w fun e w' => e = .returned (.tuple #[.int .i64 nx, .int .i64 0]) ∧ Mid w0 w' wV V p pr mx (upd g nx (some (1, l))) (n + 1) (nx + 1) (wr + 1) h m nr :=
  M.s fun F k1 k2 => insert_ok k1 vA vc l o.len o.nil (o.vals M).1 ((o.vals M).2 F k2) hnx hw hn
theorem mid_rep_no (M : Mid w0 w wV V p pr mx g n nx wr h m nr) (hid : (Lit.int .i64 id).wf = true) (v : Value) (hg : g id = none) :
    Calls Try.prog 54 #[.pointer (some ⟨p, 0, none⟩), .int .i64 id, v] w fun e w' => e = .returned (.int .i64 71) ∧ Mid w0 w' wV V p pr mx g n nx wr h m nr :=
  M.s0 fun F k1 k2 => (replace_no k1 hid v hg).mono fun e w' ⟨q1, q2⟩ => ⟨q1, by subst q2; exact Below.refl _ _⟩
theorem mid_rep_ok (M : Mid w0 w wV V p pr mx g n nx wr h m nr) (o : OwnV wV V vA vc l) (hid : (Lit.int .i64 id).wf = true) (hw : -9223372036854775808 ≤ wr + 1 ∧ wr + 1 < 9223372036854775808) {r : Row9} (hg : g id = some r) :
    Calls Try.prog 54 #[.pointer (some ⟨p, 0, none⟩), .int .i64 id, .slice vA l.length vc] w fun e w' => e = .returned (.int .i64 0) ∧ Mid w0 w' wV V p pr mx (upd g id (some (wrap64 (r.1 + 1), l))) n nx (wr + 1) h m nr :=
  M.s fun F k1 k2 => replace_ok k1 hid vA vc l o.len o.nil (o.vals M).1 hw hg
theorem mid_era_no (M : Mid w0 w wV V p pr mx g n nx wr h m nr) (hid : (Lit.int .i64 id).wf = true) (hg : g id = none) :
    Calls Try.prog 37 #[.pointer (some ⟨p, 0, none⟩), .int .i64 id] w fun e w' => e = .returned (.int .i64 71) ∧ Mid w0 w' wV V p pr mx g n nx wr h m nr :=
  M.s0 fun F k1 k2 => (erase_no k1 hid hg).mono fun e w' ⟨q1, q2⟩ => ⟨q1, by subst q2; exact Below.refl _ _⟩
theorem mid_era_ok (M : Mid w0 w wV V p pr mx g n nx wr h m nr) (hid : (Lit.int .i64 id).wf = true) (hw : -9223372036854775808 ≤ wr + 1 ∧ wr + 1 < 9223372036854775808) {r : Row9} (hg : g id = some r) :
    Calls Try.prog 37 #[.pointer (some ⟨p, 0, none⟩), .int .i64 id] w fun e w' => e = .returned (.int .i64 0) ∧ Mid w0 w' wV V p pr mx (upd g id none) (n - 1) nx (wr + 1) h m nr :=
  M.s fun F k1 k2 => (erase_ok k1 hid hw hg).mono fun e w' ⟨q1, F', k1, k0, k2, k3⟩ => ⟨q1, F', k1, k2, k3⟩
theorem mid_put_no (M : Mid w0 w wV V p pr mx g n nx wr h m nr) (o : OwnV wV V vA vc l) (hid : (Lit.int .i64 id).wf = true) (hno : g id ≠ none ∨ id < 1 ∨ nx ≤ id) :
    Calls Try.prog 38 #[.pointer (some ⟨p, 0, none⟩), .agg #[.int .i64 id, .int .i64 ver, .slice vA l.length vc]] w fun e w' => e = .returned (.int .i64 72) ∧ Mid w0 w' wV V p pr mx g n nx wr h m nr :=
  M.s0 fun F k1 k2 => by
    by_cases hg : g id = none
    · by_cases hl : id < 1
      · exact put_low k1 hid vA vc l hg hl
      · exact put_high k1 hid vA vc l hg (by omega) (by rcases hno with q | q | q; exact absurd hg q; omega; exact q)
    · exact put_there k1 hid vA vc l hg
theorem mid_put_full (M : Mid w0 w wV V p pr mx g n nx wr h m nr) (o : OwnV wV V vA vc l) (hid : (Lit.int .i64 id).wf = true) (hg : g id = none) (hlow : 1 ≤ id) (hhigh : id < nx) (hn : mx ≤ (n : Int)) :
    Calls Try.prog 38 #[.pointer (some ⟨p, 0, none⟩), .agg #[.int .i64 id, .int .i64 ver, .slice vA l.length vc]] w fun e w' => e = .returned (.int .i64 70) ∧ Mid w0 w' wV V p pr mx g n nx wr h m nr :=
  M.s0 fun F k1 k2 => put_full k1 hid vA vc l o.len o.nil (o.vals M).1 ((o.vals M).2 F k2) hg hlow hhigh hn
theorem mid_put_ok (M : Mid w0 w wV V p pr mx g n nx wr h m nr) (o : OwnV wV V vA vc l) (hid : (Lit.int .i64 id).wf = true) (hg : g id = none) (hlow : 1 ≤ id) (hhigh : id < nx) (hw : -9223372036854775808 ≤ wr + 1 ∧ wr + 1 < 9223372036854775808) (hn : (n : Int) < mx) :
    Calls Try.prog 38 #[.pointer (some ⟨p, 0, none⟩), .agg #[.int .i64 id, .int .i64 ver, .slice vA l.length vc]] w fun e w' => e = .returned (.int .i64 0) ∧ Mid w0 w' wV V p pr mx (upd g id (some (ver, l))) (n + 1) nx (wr + 1) h m nr :=
  M.s fun F k1 k2 => put_ok k1 hid vA vc l o.len o.nil (o.vals M).1 ((o.vals M).2 F k2) hg hlow hhigh hw hn
theorem mid_set_no (M : Mid w0 w wV V p pr mx g n nx wr h m nr) (hno : id < 1 ∨ 4611686018427387904 < id ∨ ∃ x, g x ≠ none ∧ id ≤ x) :
    Calls Try.prog 58 #[.pointer (some ⟨p, 0, none⟩), .int .i64 id] w fun e w' => e = .returned (.int .i64 72) ∧ Mid w0 w' wV V p pr mx g n nx wr h m nr :=
  M.s0 fun F k1 k2 => by
    by_cases h1 : id < 1
    · exact (setnext_low id h1).mono fun e w' ⟨q1, q2⟩ => ⟨q1, by subst q2; exact Below.refl _ _⟩
    · by_cases h2 : 4611686018427387904 < id
      · exact (setnext_high id h2).mono fun e w' ⟨q1, q2⟩ => ⟨q1, by subst q2; exact Below.refl _ _⟩
      · obtain ⟨x, hx, hle⟩ : ∃ x, g x ≠ none ∧ id ≤ x := by rcases hno with q | q | q; omega; omega; exact q
        exact setnext_there k1 (by omega) (by omega) hx hle
theorem mid_set_ok (M : Mid w0 w wV V p pr mx g n nx wr h m nr) (h1 : 1 ≤ id) (h2 : id ≤ 4611686018427387904) (hx : ∀ x, g x ≠ none → x < id) :
    Calls Try.prog 58 #[.pointer (some ⟨p, 0, none⟩), .int .i64 id] w fun e w' => e = .returned (.int .i64 0) ∧ Mid w0 w' wV V p pr mx g n id wr h m nr :=
  M.s fun F k1 k2 => (setnext_ok k1 h1 h2 hx).mono fun e w' ⟨q1, q2, q3⟩ => ⟨q1, F, q2, q3, Grew.refl⟩
-- the document's
variable {A : Option Addr} {ca : Nat}
theorem rid_ins_no (M : Mid w0 w wV V p pr mx g n nx wr h m nr) (v : Value) (hn : mx ≤ (m : Int)) :
    Calls Try.prog 63 #[.pointer (some ⟨pr, 0, none⟩), v] w fun e w' => e = .returned (.tuple #[.int .i64 0, .int .i64 70]) ∧ Mid w0 w' wV V p pr mx g n nx wr h m nr :=
  M.r0 fun G A cap L k1 k2 k3 => ref_insert_no k1 v (by omega)
theorem rid_ins_ok (M : Mid w0 w wV V p pr mx g n nx wr h m nr) (hl : l.length ≤ 1000) (hA : A = none → ca = 0 ∧ l.length = 0) (ha : ValsIn w0 A l) (hnx : -9223372036854775808 ≤ nr ∧ nr + 1 < 9223372036854775808) (hn : (m : Int) < mx) (hh : h nr = none) :
    Calls Try.prog 63 #[.pointer (some ⟨pr, 0, none⟩), .slice A l.length ca] w fun e w' => e = .returned (.tuple #[.int .i64 nr, .int .i64 0]) ∧ Mid w0 w' wV V p pr mx g n nx wr (upd h nr (some (1, l))) (m + 1) (nr + 1) :=
  M.r fun G A2 cap L k1 k2 k3 => (ref_insert_ok k1 (by have := M.le; omega) A ca l hl hA (ha.below M.bel) hnx (by omega)).mono fun e w' ⟨q1, k, vA, vc, A', cap', G', q2, q3, q4, q5⟩ => by
    obtain ⟨r1, r2⟩ := k2.insert q2 hh ⟨nr, 1, vA, vc, l⟩ rfl
    exact ⟨q1, G', A', cap', _, q3, r1, by omega, q4, q5⟩
theorem rid_rep_no (M : Mid w0 w wV V p pr mx g n nx wr h m nr) (v : Value) (hh : h id = none) :
    Calls Try.prog 64 #[.pointer (some ⟨pr, 0, none⟩), .int .i64 id, v] w fun e w' => e = .returned (.int .i64 71) ∧ Mid w0 w' wV V p pr mx g n nx wr h m nr :=
  M.r0 fun G A cap L k1 k2 k3 => ref_replace_no k1 id v (k2.no hh)
theorem rid_rep_ok (M : Mid w0 w wV V p pr mx g n nx wr h m nr) (hm : (m : Int) ≤ mx) (hl : l.length ≤ 1000) (hA : A = none → ca = 0 ∧ l.length = 0) (ha : ValsIn w0 A l) {r : Row9} (hh : h id = some r) :
    Calls Try.prog 64 #[.pointer (some ⟨pr, 0, none⟩), .int .i64 id, .slice A l.length ca] w fun e w' => e = .returned (.int .i64 0) ∧ Mid w0 w' wV V p pr mx g n nx wr (upd h id (some (wrap64 (r.1 + 1), l))) m nr :=
  M.r fun G A2 cap L k1 k2 k3 => (ref_replace_ok k1 (by have := M.le; omega) id A ca l hl hA (ha.below M.bel) (k2.yes (by rw [hh]; simp))).mono fun e w' ⟨q1, k, s, vA, vc, A', cap', G', q2, q0, q3, q4, q5⟩ => by
    obtain ⟨hk, e0⟩ := List.getElem?_eq_some_iff.1 q0
    obtain ⟨_, e1⟩ := okAt_lt (k2.yes (by rw [hh]; simp) k q2)
    have e2 := k2.each _ (List.getElem_mem hk)
    rw [e1, hh, e0] at e2
    injection e2 with e2
    have r1 := k2.replace q2 (by rw [hh]; simp) ⟨id, wrap64 (s.ver + 1), vA, vc, l⟩ rfl
    subst e2
    exact ⟨q1, G', A', cap', _, q3, r1, by rw [List.length_set]; exact k3, q4, q5⟩
theorem rid_era_no (M : Mid w0 w wV V p pr mx g n nx wr h m nr) (hh : h id = none) :
    Calls Try.prog 65 #[.pointer (some ⟨pr, 0, none⟩), .int .i64 id] w fun e w' => e = .returned (.int .i64 71) ∧ Mid w0 w' wV V p pr mx g n nx wr h m nr :=
  M.r0 fun G A cap L k1 k2 k3 => ref_erase_no k1 id (k2.no hh)
theorem rid_era_ok (M : Mid w0 w wV V p pr mx g n nx wr h m nr) (hm : (m : Int) ≤ mx) (hh : h id ≠ none) :
    Calls Try.prog 65 #[.pointer (some ⟨pr, 0, none⟩), .int .i64 id] w fun e w' => e = .returned (.int .i64 0) ∧ Mid w0 w' wV V p pr mx g n nx wr (upd h id none) (m - 1) nr :=
  M.r fun G A2 cap L k1 k2 k3 => (ref_erase_ok k1 (by have := M.le; omega) id (k2.yes hh)).mono fun e w' ⟨q1, k, W, A', cap', q2, q3, q4, q5⟩ => by
    obtain ⟨r1, r2⟩ := k2.erase q2 hh
    subst q4
    rw [← r2] at q5 ⊢
    obtain ⟨s1, s2⟩ := k1.rows q3 q5 (fun s hs => .inl (by
      rcases List.mem_append.1 hs with q | q
      · exact List.mem_of_mem_take q
      · exact List.mem_of_mem_drop q))
    exact ⟨q1, _, A', cap', _, s1, r1, by omega, s2, ⟨fun k h => .inl h, fun k h => h.imp (fun h => h) (fun h => h.1)⟩⟩
theorem rid_put_no (M : Mid w0 w wV V p pr mx g n nx wr h m nr) (hno : h id ≠ none ∨ id < 1 ∨ nr ≤ id) :
    Calls Try.prog 66 #[.pointer (some ⟨pr, 0, none⟩), .agg #[.int .i64 id, .int .i64 ver, .slice A l.length ca]] w fun e w' => e = .returned (.int .i64 72) ∧ Mid w0 w' wV V p pr mx g n nx wr h m nr :=
  M.r0 fun G A2 cap L k1 k2 k3 => ref_put_no k1 id ver _ ⟨_, _, _, rfl⟩ (hno.imp (fun q => k2.yes q) (fun q => q))
theorem rid_put_full (M : Mid w0 w wV V p pr mx g n nx wr h m nr) (hh : h id = none) (h1 : 1 ≤ id) (h2 : id < nr) (hn : mx ≤ (m : Int)) :
    Calls Try.prog 66 #[.pointer (some ⟨pr, 0, none⟩), .agg #[.int .i64 id, .int .i64 ver, .slice A l.length ca]] w fun e w' => e = .returned (.int .i64 70) ∧ Mid w0 w' wV V p pr mx g n nx wr h m nr :=
  M.r0 fun G A2 cap L k1 k2 k3 => ref_put_full k1 id ver _ ⟨_, _, _, rfl⟩ (k2.no hh) h1 h2 (by omega)
theorem rid_put_ok (M : Mid w0 w wV V p pr mx g n nx wr h m nr) (hl : l.length ≤ 1000) (hA : A = none → ca = 0 ∧ l.length = 0) (ha : ValsIn w0 A l) (hh : h id = none) (h1 : 1 ≤ id) (h2 : id < nr) (hn : (m : Int) < mx) :
    Calls Try.prog 66 #[.pointer (some ⟨pr, 0, none⟩), .agg #[.int .i64 id, .int .i64 ver, .slice A l.length ca]] w fun e w' => e = .returned (.int .i64 0) ∧ Mid w0 w' wV V p pr mx g n nx wr (upd h id (some (ver, l))) (m + 1) nr :=
  M.r fun G A2 cap L k1 k2 k3 => (ref_put_ok k1 (by have := M.le; omega) id ver A ca l hl hA (ha.below M.bel) (k2.no hh) h1 h2 (by omega)).mono fun e w' ⟨q1, k, vA, vc, A', cap', G', q2, q3, q4, q5⟩ => by
    obtain ⟨r1, r2⟩ := k2.insert q2 hh ⟨id, ver, vA, vc, l⟩ rfl
    exact ⟨q1, G', A', cap', _, q3, r1, by omega, q4, q5⟩
theorem rid_set_no (M : Mid w0 w wV V p pr mx g n nx wr h m nr) (hm : (m : Int) ≤ mx) (hno : id < 1 ∨ 4611686018427387904 < id ∨ ∃ x, h x ≠ none ∧ id ≤ x) :
    Calls Try.prog 67 #[.pointer (some ⟨pr, 0, none⟩), .int .i64 id] w fun e w' => e = .returned (.int .i64 72) ∧ Mid w0 w' wV V p pr mx g n nx wr h m nr :=
  M.r0 fun G A2 cap L k1 k2 k3 => by
    by_cases h1 : id < 1
    · exact ref_setnext_low id (.int .i64 0) h1 k1
    · by_cases h2 : 4611686018427387904 < id
      · exact ref_setnext_high id h2 k1
      · obtain ⟨x, hx, hle⟩ : ∃ x, h x ≠ none ∧ id ≤ x := by rcases hno with q | q | q; omega; omega; exact q
        have h0 : 0 < L.length := by obtain ⟨s, hs, _⟩ := k2.all x hx; exact List.length_pos_of_mem hs
        exact ref_setnext_there id (by omega) (by omega) k1 (by have := M.le; omega) h0 (by have := k2.last h0 x hx; omega)
theorem rid_set_ok (M : Mid w0 w wV V p pr mx g n nx wr h m nr) (hm : (m : Int) ≤ mx) (h1 : 1 ≤ id) (h2 : id ≤ 4611686018427387904) (hx : ∀ x, h x ≠ none → x < id) :
    Calls Try.prog 67 #[.pointer (some ⟨pr, 0, none⟩), .int .i64 id] w fun e w' => e = .returned (.int .i64 0) ∧ Mid w0 w' wV V p pr mx g n nx wr h m id :=
  M.r fun G A2 cap L k1 k2 k3 => (ref_setnext_ok id h1 h2 k1 (by have := M.le; omega) (fun h0 => hx _ (k2.has (List.getElem_mem (by omega))))).mono fun e w' ⟨q1, q2, q3⟩ => ⟨q1, G, A2, cap, L, q2, k2, k3, q3, Grew.refl⟩
end
-- what both tell
theorem mid_wri (M : Mid w0 w wV V p pr mx g n nx wr h m nr) : Calls Try.prog 62 #[.pointer (some ⟨p, 0, none⟩)] w fun e w' => e = .returned (.int .i64 wr) ∧ w = w' := by
  obtain ⟨X, G, A, cap, L, ⟨F, k1, _⟩, _⟩ := M
  exact writes_any9 k1
theorem mid_len (M : Mid w0 w wV V p pr mx g n nx wr h m nr) : Calls Try.prog 36 #[.pointer (some ⟨p, 0, none⟩)] w fun e w' => e = .returned (.int .i64 n) ∧ w = w' := by
  obtain ⟨X, G, A, cap, L, ⟨F, k1, _⟩, _⟩ := M
  exact len_any9 k1
theorem mid_next (M : Mid w0 w wV V p pr mx g n nx wr h m nr) : Calls Try.prog 56 #[.pointer (some ⟨p, 0, none⟩)] w fun e w' => e = .returned (.int .i64 nx) ∧ w = w' := by
  obtain ⟨X, G, A, cap, L, ⟨F, k1, _⟩, _⟩ := M
  exact next_any9 k1
def Good (g : Int → Option Row9) : Prop := ∀ id r, g id = some r → allOk r.2 ∧ r.2.length ≤ 1000
theorem rowIn9 {base : Nat} {A : Option Addr} {cap : Nat} {L : List Slt} (h : w.ownsRow base 63 3 (.slice A L.length cap) L.length (rowC sltC L)) : RowIn sltC 3 w A L := by
  obtain ⟨A', cap', e, _, _, _, h⟩ := rowIn_own sltC_len rfl h
  injection e with e
  subst e
  exact h
theorem mid_view (M : Mid w0 w wV V p pr mx g n nx wr g m nr) (hg : Good g) (hm : (m : Int) ≤ mx) : ∃ A cap, w.cell? ⟨pr, 0, none⟩ = some (.slice A m cap) ∧ w.cell? ⟨pr, 2, none⟩ = some (.int .i64 nr) ∧ pr < w.heap.size ∧
    Calls Try.prog 60 #[.pointer (some ⟨p, 0, none⟩)] w fun e w' => ∃ A' c', e = .returned (.slice A' m c') ∧ Below w.heap.size w w' ∧ ∀ W, Below w'.heap.size w' W → Gives Try.prog 68 #[.slice A' m c', .slice A m cap] W (.bool true) := by
  have hle := M.le
  obtain ⟨X, G, A, cap, L, h1, h2, h3, h4, h5, h6, h7, h8⟩ := M
  refine ⟨A, cap, by rw [← h4]; exact h2.box.cell 0, h2.box.cell 2, h2.box.lt, (allI h1).mono ?_⟩
  rintro e w' ⟨v, R, rfl, ownR, hB, hT, hP, hI⟩
  have aR : Agree g R := ⟨hP, fun s hs => (hT s hs).is_, fun id hid => by
    obtain ⟨s, hs, e⟩ := List.mem_map.1 ((hI id).1 hid)
    exact ⟨s, hs, e⟩⟩
  have hRL := aR.alike h3
  obtain ⟨A', c', rfl⟩ := own_form9 ownR
  have e1 : R.length = m := hRL.1.trans h4
  refine ⟨A', c', by rw [e1], hB, fun W hW => ?_⟩
  have h2W := (h2.below hB).below hW
  have hBW : Below w.heap.size w' W := hW.mono hB.size
  have := same9_any A' A c' cap R L hRL (by omega) W (fun s hs => hg s.id _ (h3.each s hs)) (rowIn9 (own_below ownR hW)) (rowIn9 h2W.row) (fun s hs => by
    obtain ⟨A9, c9, e9, _, _, _, hv9⟩ := own_vals (hT s hs).own
    injection e9 with e9
    subst e9
    exact hv9.below hW) (fun s hs => (h2W.vals s hs).vals)
  rw [e1, h4] at this
  exact this
theorem mid_get_none (M : Mid w0 w wV V p pr mx g n nx wr h m nr) {id : Int} (hid : (Lit.int .i64 id).wf = true) (hg : g id = none) :
    Calls Try.prog 55 #[.pointer (some ⟨p, 0, none⟩), .int .i64 id] w fun e w' => e = .returned (.tuple #[.agg #[.int .i64 0, .int .i64 0, .slice none 0 0], .bool false]) ∧ Below w.heap.size w w' := by
  obtain ⟨X, G, A, cap, L, ⟨F, k1, _⟩, _⟩ := M
  exact get_none k1 hid hg
theorem mid_get_some (M : Mid w0 w wV V p pr mx g n nx wr h m nr) {id : Int} (hid : (Lit.int .i64 id).wf = true) {r : Row9} (hg : g id = some r) :
    Calls Try.prog 55 #[.pointer (some ⟨p, 0, none⟩), .int .i64 id] w fun e w' => ∃ A ca, e = .returned (.tuple #[.agg #[.int .i64 id, .int .i64 r.1, .slice A r.2.length ca], .bool true]) ∧ w'.ownsRow w.heap.size 103 4 (.slice A r.2.length ca) r.2.length (cellsOf r.2) ∧ Below w.heap.size w w' := by
  obtain ⟨X, G, A, cap, L, ⟨F, k1, _⟩, _⟩ := M
  refine (get_some k1 hid hg).mono ?_
  rintro e w' ⟨v, rfl, own, hB⟩
  obtain ⟨A', c', rfl⟩ := own_form9 own
  exact ⟨A', c', rfl, own, hB⟩
theorem rid_get_none (M : Mid w0 w wV V p pr mx g n nx wr h m nr) {id : Int} (hh : h id = none) :
    Calls Try.prog 69 #[.pointer (some ⟨pr, 0, none⟩), .int .i64 id] w fun e w' => e = .returned (.tuple #[.agg #[.int .i64 0, .int .i64 0, .slice none 0 0], .bool false]) ∧ Below w.heap.size w w' := by
  obtain ⟨X, G, A, cap, L, h1, h2, h3, h4, h5, h6, h7, h8⟩ := M
  refine (ref_get h2 id).mono ?_
  rintro e w' ⟨v, ok, rfl, hB, ⟨rfl, rfl, _⟩ | ⟨rfl, s, hs, rfl, rfl⟩⟩
  · exact ⟨rfl, hB⟩
  · exact absurd hh (h3.has hs)
theorem rid_get_some (M : Mid w0 w wV V p pr mx g n nx wr h m nr) {id : Int} {r : Row9} (hh : h id = some r) :
    Calls Try.prog 69 #[.pointer (some ⟨pr, 0, none⟩), .int .i64 id] w fun e w' => ∃ A ca, e = .returned (.tuple #[.agg #[.int .i64 id, .int .i64 r.1, .slice A r.2.length ca], .bool true]) ∧ Below w.heap.size w w' ∧ ValsIn w' A r.2 := by
  obtain ⟨X, G, A, cap, L, h1, h2, h3, h4, h5, h6, h7, h8⟩ := M
  refine (ref_get h2 id).mono ?_
  rintro e w' ⟨v, ok, rfl, hB, ⟨rfl, rfl, k, hk, hno⟩ | ⟨rfl, s, hs, rfl, rfl⟩⟩
  · have := h3.yes (by rw [hh]; simp) k hk
    rw [hno] at this; cases this
  · have q := h3.each s hs
    rw [hh] at q
    injection q with q
    subst q
    exact ⟨_, _, rfl, hB, ((h2.below hB).vals s hs).vals⟩
end
end Go.Proofs.Ytilpgojkbgbinaa
