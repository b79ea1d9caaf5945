/- Package row: a store of a statement's own: Get, Put, Replace, SetNext. -/
import Derived.Test.YtilpgojkbgbinaaStoI
set_option maxRecDepth 100000
set_option linter.unusedVariables false
set_option linter.unusedSimpArgs false
namespace Go.Proofs.Ytilpgojkbgbinaa
open Go.RowKit
open Go.Maps (has size Keyed int_keyed keyOf_int_mk)
section
variable {X Y : Nat → Prop} {w0 w w' : World} {p : Nat} {g : Int → Option Row9} {n : Nat} {mx nx wr : Int}
/-- values that a slice of one's own has -/
abbrev ownV (w : World) (ga ca : Nat) (l : List Val) : Prop := w.ownsRow 0 103 4 (.slice (some ⟨ga, 0, none⟩) l.length ca) l.length (cellsOf l)
theorem ownV_in {ga ca : Nat} {l : List Val} (h : ownV w ga ca l) : ValsIn w (some ⟨ga, 0, none⟩) l := by
  obtain ⟨A, cap, e, _, _, _, hv⟩ := own_vals h
  injection e with e1 e2 e3
  subst e1
  exact hv
theorem ownV_same {ga ca : Nat} {l : List Val} (h : ownV w ga ca l) (hk : w'.heap[ga]? = w.heap[ga]?) : ownV w' ga ca l := own_same h (fun k e => by simp [Value.ownBlock] at e; subst e; exact hk)
theorem getI_some (h : StI X w0 w p g n mx nx wr) {id : Int} (hid : (Lit.int .i64 id).wf = true) {r : Row9} (hg : g id = some r) (hl : 0 < r.2.length) :
    Calls Try.prog 55 #[.pointer (some ⟨p, 0, none⟩), .int .i64 id] w fun e w' => ∃ ga ca, e = .returned (.tuple #[.agg #[.int .i64 id, .int .i64 r.1, .slice (some ⟨ga, 0, none⟩) r.2.length ca], .bool true]) ∧ ownV w' ga ca r.2 ∧ w.heap.size ≤ ga ∧ ga < w'.heap.size ∧ Below w.heap.size w w' := by
  obtain ⟨F, h1, h2, h3, h4⟩ := h
  refine (get_some h1 hid hg).mono ?_
  rintro e w' ⟨v, rfl, own, hB⟩
  have own2 := own
  rcases own.2 with ⟨_, e⟩ | ⟨ga, ca, cur, rfl, hge, hgg, _⟩
  · omega
  · exact ⟨ga, ca, rfl, own_lower own2 (Nat.zero_le _), hge, (Array.getElem?_eq_some_iff.1 hgg).1, hB⟩
theorem getI_none (h : StI X w0 w p g n mx nx wr) {id : Int} (hid : (Lit.int .i64 id).wf = true) (hg : g id = none) :
    Calls Try.prog 55 #[.pointer (some ⟨p, 0, none⟩), .int .i64 id] w fun e w' => e = .returned (.tuple #[.agg #[.int .i64 0, .int .i64 0, .slice none 0 0], .bool false]) ∧ Below w.heap.size w w' := by
  obtain ⟨F, h1, h2, h3, h4⟩ := h
  exact get_none h1 hid hg
theorem putI_there (h : StI X w0 w p g n mx nx wr) {id ver : Int} (hid : (Lit.int .i64 id).wf = true) (A : Option Addr) (ca : Nat) (l : List Val) (hg : g id ≠ none) :
    Calls Try.prog 38 #[.pointer (some ⟨p, 0, none⟩), .agg #[.int .i64 id, .int .i64 ver, .slice A l.length ca]] w fun e w' => e = .returned (.int .i64 72) ∧ Below w.heap.size w w' := by
  obtain ⟨F, h1, h2, h3, h4⟩ := h
  exact put_there h1 hid A ca l hg
theorem putI_high (h : StI X w0 w p g n mx nx wr) {id ver : Int} (hid : (Lit.int .i64 id).wf = true) (A : Option Addr) (ca : Nat) (l : List Val) (hg : g id = none) (hlow : 1 ≤ id) (hhigh : nx ≤ id) :
    Calls Try.prog 38 #[.pointer (some ⟨p, 0, none⟩), .agg #[.int .i64 id, .int .i64 ver, .slice A l.length ca]] w fun e w' => e = .returned (.int .i64 72) ∧ Below w.heap.size w w' := by
  obtain ⟨F, h1, h2, h3, h4⟩ := h
  exact put_high h1 hid A ca l hg hlow hhigh
theorem putI_ok (h : StI X w0 w p g n mx nx wr) {id ver : Int} (hid : (Lit.int .i64 id).wf = true) {ga ca : Nat} {l : List Val} (hl : l.length ≤ 1000) (ho : ownV w ga ca l) (hX : X ga) (hg : g id = none) (hlow : 1 ≤ id) (hhigh : id < nx) (hw : -9223372036854775808 ≤ wr + 1 ∧ wr + 1 < 9223372036854775808) (hn : (n : Int) < mx) :
    Calls Try.prog 38 #[.pointer (some ⟨p, 0, none⟩), .agg #[.int .i64 id, .int .i64 ver, .slice (some ⟨ga, 0, none⟩) l.length ca]] w fun e w' => e = .returned (.int .i64 0) ∧ StI X w0 w' p (upd g id (some (ver, l))) (n + 1) mx nx (wr + 1) ∧ ∀ k, X k → w'.heap[k]? = w.heap[k]? := by
  obtain ⟨F, h1, h2, h3, h4⟩ := h
  refine (put_ok h1 (ver := ver) hid (some ⟨ga, 0, none⟩) ca l hl (fun e => by cases e) (ownV_in ho) (fun x e c => by cases e; exact (h4 ga hX).2 c) hg hlow hhigh hw hn).mono ?_
  rintro e w' ⟨rfl, F', k1, k2, k3⟩
  obtain ⟨q1, q2⟩ := StI.step (X := X) (w0 := w0) k1 k2 k3 h2 h3 h4
  exact ⟨rfl, q1, q2⟩
theorem setI_there (h : StI X w0 w p g n mx nx wr) {id x0 : Int} (h1 : 1 ≤ id) (h2 : id ≤ 4611686018427387904) (hx : g x0 ≠ none) (hle : id ≤ x0) :
    Calls Try.prog 58 #[.pointer (some ⟨p, 0, none⟩), .int .i64 id] w fun e w' => e = .returned (.int .i64 72) ∧ Below w.heap.size w w' := by
  obtain ⟨F, k1, k2, k3, k4⟩ := h
  exact setnext_there k1 h1 h2 hx hle
theorem setI_ok (h : StI X w0 w p g n mx nx wr) {id : Int} (h1 : 1 ≤ id) (h2 : id ≤ 4611686018427387904) (hx : ∀ x, g x ≠ none → x < id) :
    Calls Try.prog 58 #[.pointer (some ⟨p, 0, none⟩), .int .i64 id] w fun e w' => e = .returned (.int .i64 0) ∧ StI X w0 w' p g n mx id wr ∧ ∀ k, X k → w'.heap[k]? = w.heap[k]? := by
  obtain ⟨F, k1, k2, k3, k4⟩ := h
  refine (setnext_ok k1 h1 h2 hx).mono ?_
  rintro e w' ⟨rfl, q1, q2⟩
  obtain ⟨r1, r2⟩ := StI.step (X := X) (w0 := w0) q1 q2 Grew.refl k2 k3 k4
  exact ⟨rfl, r1, r2⟩
theorem replaceI_no (h : StI X w0 w p g n mx nx wr) {id : Int} (hid : (Lit.int .i64 id).wf = true) (v : Value) (hg : g id = none) :
    Calls Try.prog 54 #[.pointer (some ⟨p, 0, none⟩), .int .i64 id, v] w fun e w' => e = .returned (.int .i64 71) ∧ w = w' := by
  obtain ⟨F, k1, k2, k3, k4⟩ := h
  exact replace_no k1 hid v hg
theorem replaceI_ok (h : StI X w0 w p g n mx nx wr) {id : Int} (hid : (Lit.int .i64 id).wf = true) (A : Option Addr) (ca : Nat) (l : List Val) (hl : l.length ≤ 1000) (hA : A = none → ca = 0 ∧ l.length = 0) (ha : ValsIn w A l) (hw : -9223372036854775808 ≤ wr + 1 ∧ wr + 1 < 9223372036854775808) {r : Row9} (hg : g id = some r) :
    Calls Try.prog 54 #[.pointer (some ⟨p, 0, none⟩), .int .i64 id, .slice A l.length ca] w fun e w' => e = .returned (.int .i64 0) ∧ StI X w0 w' p (upd g id (some (wrap64 (r.1 + 1), l))) n mx nx (wr + 1) ∧ ∀ k, X k → w'.heap[k]? = w.heap[k]? := by
  obtain ⟨F, k1, k2, k3, k4⟩ := h
  refine (replace_ok k1 hid A ca l hl hA ha hw hg).mono ?_
  rintro e w' ⟨rfl, F', q1, q2, q3⟩
  obtain ⟨r1, r2⟩ := StI.step (X := X) (w0 := w0) q1 q2 q3 k2 k3 k4
  exact ⟨rfl, r1, r2⟩
end
end Go.Proofs.Ytilpgojkbgbinaa
