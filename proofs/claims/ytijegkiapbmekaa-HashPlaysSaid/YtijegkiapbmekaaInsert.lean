/- copy within a row that a call owns, of structs of whatever size. -/
import Derived.Test.YtijegkiapbmekaaPileW
import Derived.Laws.CopyOwn
set_option maxRecDepth 100000
set_option linter.unusedVariables false
set_option linter.unusedSimpArgs false
namespace Go.Proofs.Ytijegkiapbmekaa
open Go.RowKit
theorem splice_take (cur : List Value) (N off : Nat) (cs : List Value) (hN : N ≤ cur.length) (h : off + cs.length ≤ N) : (cur.take off ++ cs ++ cur.drop (off + cs.length)).take N = splice (cur.take N) off cs := by
  unfold splice
  apply List.ext_getElem?
  intro j
  have e1 : min off cur.length = off := by omega
  have e2 : min off N = off := by omega
  simp only [List.getElem?_take, List.getElem?_append, List.getElem?_drop, List.length_take, List.length_append, e1, e2, List.take_take, List.append_assoc]
  have e3 : min off (min N cur.length) = off := by omega
  by_cases h1 : j < N
  · simp only [h1, if_true, e3]
    by_cases h2 : j < off
    · simp [h2]
    · simp only [h2, if_false]
      by_cases h3 : j - off < cs.length
      · simp [h3]
      · simp only [h3, if_false]
        rw [if_pos (by omega)]
  · simp only [h1, if_false, e3]
    rw [if_neg (by omega), if_neg (by omega), if_neg (by omega)]
theorem run_copy_own {P : Program} (w : World) (dT sT ty elem : TypeId) (size : Nat) (hu : P.underlying dT = some (.slice elem)) (hs : (P.info? elem).map (·.size) = some size)
    (dp sp : Option Addr) (dLen dCap sLen sCap : Nat) (base : Nat) (e : TypeId) (v : Value) (n : Nat) (xs : List Value) (g cap : Nat) (hv : v = .slice (some ⟨g, 0, none⟩) n cap) (own : w.ownsRow base e size v n xs)
    (off m : Nat) (hm : m = Nat.min sLen dLen) (cs : List Value) (hcs : cs.length = m * size) (hpos : 0 < m → dp = some ⟨g, off, none⟩ ∧ ∃ ad, sp = some ad ∧ ∀ j u, cs[j]? = some u → w.cell? (ad.add j) = some u)
    (hfit : off + cs.length ≤ xs.length) (h1 : ∀ u ∈ cs, u.oneCell' = true) :
    ∃ w', (Builtin.copy_ #[dT, sT] ty #[.slice dp dLen dCap, .slice sp sLen sCap]).run P w = .ok (goInt m) w' ∧ w'.ownsRow base e size v n (splice xs off cs) ∧ w.grownBy w' (some g) := by
  cases hq : P.info? elem with
  | none => simp [hq] at hs
  | some i =>
    have hi : i.size = size := by simpa [hq] using hs
    rcases Nat.eq_zero_or_pos m with h0 | h0
    · subst h0
      have : cs = [] := List.eq_nil_of_length_eq_zero (by rw [hcs]; omega)
      subst this
      refine ⟨w, ?_, ?_, ⟨rfl, rfl, rfl, Nat.le_refl _, fun _ _ _ => rfl⟩⟩
      · cases dp <;> cases sp <;> simp [Builtin.copy_, run_underlying hu, Builtin.lenOf, Builtin.firstCells, sizeOf, typeInfo, hq, hi, ← hm, loadCells, loadCellsFrom, storeCells, Sem.run_bind, Sem.run_pure]
      · have : splice xs off [] = xs := by simp [splice]
        rw [this]; exact own
    · obtain ⟨rfl, ad, rfl, hsrc⟩ := hpos h0
      obtain ⟨hlen, ho⟩ := own
      rcases ho with ⟨rfl, _⟩ | ⟨g', cap', cur, hv', hb, hg, hnc, hcm, hsz, htk⟩
      · cases hv
      · rw [hv] at hv'
        injection hv' with e1 e2 e3
        injection e1 with e1
        injection e1 with e1 _ _
        subst e1 e3
        have hcur : n * size ≤ cur.size := by rw [hsz]; exact Nat.mul_le_mul_right _ hnc
        have hl := run_loadCells_list (P := P) w ad cs hsrc
        have hst := run_storeCells_at P g off e cs 0 cur w hg (by simp; omega) h1
        refine ⟨w.setRow g (cur.toList.take off ++ cs ++ cur.toList.drop (off + cs.length)).toArray, ?_, ⟨?_, .inr ⟨g, cap, _, hv, hb, setRow_heap w g cur _ e _ hg, hnc, hcm, ?_, ?_⟩⟩, ?_⟩
        · rw [Nat.add_zero] at hst
          simp [Builtin.copy_, run_underlying hu, Builtin.lenOf, Builtin.firstCells, sizeOf, typeInfo, hq, hi, ← hm, ← hcs, hl, hst]
        · rw [← hlen]; exact length_splice xs off cs hfit
        · simp; omega
        · have := splice_take cur.toList (n * size) off cs (by simpa using hcur) (by omega)
          rw [htk] at this
          simpa using this
        · exact ⟨rfl, rfl, rfl, by simp [World.setRow], fun k _ hk => setRow_other w g k _ (fun h => hk (by rw [h]))⟩
theorem step_copy_own {P : Program} {ops : Array Oper} {o : Oper} {a : Act} {w : World} {K : Act → World → Prop} {Q : Exit → Act → World → Prop} {E : Prop} (hgd : o.guard = none) (d s : Operand) (dT sT : TypeId)
    (ho : o.op = .call { callee := .builtin .copy, args := #[d, s], argTypes := #[dT, sT] }) (elem : TypeId) (size : Nat) (hu : P.underlying dT = some (.slice elem)) (hsz : (P.info? elem).map (·.size) = some size)
    (dp sp : Option Addr) (dLen dCap sLen sCap : Nat) (hd : a.eval d = .slice dp dLen dCap) (hs : a.eval s = .slice sp sLen sCap)
    (base : Nat) (e : TypeId) (v : Value) (n : Nat) (xs : List Value) (g cap : Nat) (hv : v = .slice (some ⟨g, 0, none⟩) n cap) (own : w.ownsRow base e size v n xs)
    (off m : Nat) (hm : m = Nat.min sLen dLen) (cs : List Value) (hcs : cs.length = m * size) (hpos : 0 < m → dp = some ⟨g, off, none⟩ ∧ ∃ ad, sp = some ad ∧ ∀ j u, cs[j]? = some u → w.cell? (ad.add j) = some u)
    (hfit : off + cs.length ≤ xs.length) (h1 : ∀ u ∈ cs, u.oneCell' = true)
    (h : ∀ w', w'.ownsRow base e size v n (splice xs off cs) → w.grownBy w' (some g) → K (a.put o.dst (goInt m)) w') :
    if Region.wanted o (yielded ops a.tmps) = true then Oper.wp P o a w K Q else E := by
  have hw : Region.wanted o (yielded ops a.tmps) = true := by simp [Region.wanted, hgd]
  rw [if_pos hw]
  obtain ⟨w', hrun, h2, h3⟩ := run_copy_own (P := P) w dT sT o.type elem size hu hsz dp sp dLen dCap sLen sCap base e v n xs g cap hv own off m hm cs hcs hpos hfit h1
  unfold Oper.wp
  simp [execOp, ho, resolve, invoke, builtin, hd, hs, hrun, Result.andThen]
  exact h w' h2 h3
section
variable {α : Type} {c : α → List Value} {s : Nat}
theorem rowC_take (hc : ∀ a, (c a).length = s) : ∀ (l : List α) (k : Nat), k ≤ l.length → (rowC c l).take (k * s) = rowC c (l.take k)
  | l, 0, _ => by simp [rowC]
  | [], k + 1, h => by simp at h
  | x :: l, k + 1, h => by
    have ih := rowC_take hc l k (by simpa using h)
    unfold rowC at *
    rw [List.flatMap_cons, List.take_succ_cons, List.flatMap_cons, ← ih, List.take_append, hc, show (k + 1) * s - s = k * s by rw [Nat.add_mul]; omega, List.take_of_length_le (by rw [hc, Nat.add_mul]; omega)]
theorem rowC_drop (hc : ∀ a, (c a).length = s) : ∀ (l : List α) (k : Nat), k ≤ l.length → (rowC c l).drop (k * s) = rowC c (l.drop k)
  | l, 0, _ => by simp
  | [], k + 1, h => by simp at h
  | x :: l, k + 1, h => by
    have ih := rowC_drop hc l k (by simpa using h)
    unfold rowC at *
    rw [List.flatMap_cons, List.drop_succ_cons, ← ih, List.drop_append, hc, show (k + 1) * s - s = k * s by rw [Nat.add_mul]; omega, List.drop_of_length_le (by rw [hc, Nat.add_mul]; omega), List.nil_append]
/-- what the copy makes of a row: one stands twice -/
theorem ins_row (hc : ∀ a, (c a).length = s) (L : List α) (z : α) (k : Nat) (hk : k ≤ L.length) :
    splice (rowC c (L ++ [z])) ((k + 1) * s) (rowC c (L.drop k)) = rowC c (L.take k ++ (L ++ [z])[k]'(by simp; omega) :: L.drop k) := by
  unfold splice
  rw [rowC_length hc, List.length_drop, ← Nat.add_mul, rowC_drop hc _ _ (by simp; omega), rowC_take hc _ _ (by simp; omega)]
  have e : (L ++ [z]).drop (k + 1 + (L.length - k)) = [] := List.drop_eq_nil_of_le (by simp; omega)
  have e2 : rowC c ([] : List α) = [] := rfl
  rw [e, e2, List.append_nil, List.take_succ_eq_append_getElem (by simp; omega), List.take_append_of_le_length hk, ← rowC_append]
  simp
theorem ins_set (L : List α) (y x : α) (k : Nat) (hk : k ≤ L.length) : (L.take k ++ y :: L.drop k).set k x = L.take k ++ x :: L.drop k := by
  rw [List.set_append_right _ _ (by simp; omega), List.length_take, Nat.min_eq_left hk, Nat.sub_self, List.set_cons_zero]
end
/-- one laid into a row in order -/
def insAt {α : Type} (M : List α) (k : Nat) (x : α) : List α := M.take k ++ x :: M.drop k
theorem insAt_perm {α : Type} (M : List α) (k : Nat) (x : α) : (insAt M k x).Perm (x :: M) := by
  unfold insAt
  refine List.perm_middle.trans ?_
  rw [List.take_append_drop]
theorem insAt_length {α : Type} (M : List α) (k : Nat) (x : α) : (insAt M k x).length = M.length + 1 := (insAt_perm M k x).length_eq
theorem insAt_pairwise {α : Type} {R : α → α → Prop} {M : List α} {k : Nat} {x : α} (h : M.Pairwise R) (h1 : ∀ y ∈ M.take k, R y x) (h2 : ∀ y ∈ M.drop k, R x y) : (insAt M k x).Pairwise R := by
  unfold insAt
  rw [List.pairwise_append]
  have h' := h
  rw [← List.take_append_drop k M, List.pairwise_append] at h'
  refine ⟨h'.1, List.pairwise_cons.2 ⟨h2, h'.2.1⟩, fun a ha b hb => ?_⟩
  rcases List.mem_cons.1 hb with rfl | hb
  · exact h1 a ha
  · exact h'.2.2 a ha b hb
theorem own_insert {α : Type} {c : α → List Value} {s : Nat} {w : World} {base : Nat} {e : TypeId} {v : Value} {g : Nat} (hc : ∀ a, (c a).length = s) (hs : 0 < s) (M : List α) (z x : α) (k : Nat) (hk : k ≤ M.length) (hg : v.ownBlock = some g)
    (own : w.ownsRow base e s v (M.length + 1) (splice (rowC c (M ++ [z])) ((k + 1) * s) (rowC c (M.drop k)))) : (puts w g (rowW (k * s) (c x))).ownsRow base e s v (M.length + 1) (rowC c (insAt M k x)) := by
  rw [ins_row hc M z k hk] at own
  have h := puts_own hg (rowW (k * s) (c x)) w _ (fun j u hm => by
    have := rowW_mem _ _ _ _ hm
    rw [hc] at this
    have h2 := Nat.mul_le_mul_right s (show k + 1 ≤ M.length + 1 by omega)
    rw [Nat.add_mul, Nat.one_mul] at h2
    omega) own
  rwa [setsL_row hc hs _ k (by simp; omega) x, ins_set M _ x k hk] at h
theorem grown_puts (g : Nat) (ws : List (Nat × Value)) (w : World) : w.grownBy (puts w g ws) (some g) := by
  obtain ⟨e1, e2, e3⟩ := puts_rest g ws w
  exact ⟨e1, e2, e3, by rw [puts_size]; omega, fun k _ hk => puts_other g k (fun e => hk (by rw [e])) ws w⟩
theorem own_at {w : World} {base : Nat} {e : TypeId} {s n g cap : Nat} {xs : List Value} (h : w.ownsRow base e s (.slice (some ⟨g, 0, none⟩) n cap) n xs) :
    n ≤ cap ∧ cap ≤ 9223372036854775807 ∧ base ≤ g ∧ g < w.heap.size ∧ (∀ j u, xs[j]? = some u → w.cell? ⟨g, j, none⟩ = some u) ∧ (∀ o, w.frozen? ⟨g, o, none⟩ = false) := by
  have hf := fun o => own_free h (g := g) rfl o
  rcases h with ⟨hlen, ⟨hv, h0⟩ | ⟨g', cap', cur, hv, hge, hblk, hnc, hcm, hcs, htake⟩⟩
  · cases hv
  · injection hv with h1 h2 h3
    injection h1 with h1
    injection h1 with h1
    subst h1 h3
    refine ⟨hnc, hcm, hge, (Array.getElem?_eq_some_iff.1 hblk).1, fun j u hu => ?_, hf⟩
    have e1 : w.cell? ⟨g, 0 + j, none⟩ = cur[0 + j]? := cell_of_row w g (0 + j) cur _ (0, 0) hblk
    rw [Nat.zero_add] at e1
    rw [e1, ← Array.getElem?_toList]
    have hj2 : j < n * s := by
      rcases Nat.lt_or_ge j xs.length with q | q
      · omega
      · rw [List.getElem?_eq_none q] at hu; cases hu
    have e2 : (cur.toList.take (n * s))[j]? = cur.toList[j]? := List.getElem?_take_of_lt hj2
    rw [← e2, htake, hu]
theorem grown_after {w w' : World} {o : Obj} {r : Option Nat} (h : (w.alloc o).grownBy w' r) : w.grownBy w' r := ⟨h.os, h.tape, h.output, by have := h.size; simp at this; omega, fun k hk hne => (h.block k (by simp; omega) hne).trans (Below.heap_alloc w _ k hk)⟩
theorem grown_drew {w w' : World} {r : Option Nat} (h : w.drew.grownBy w' r) : w.grownBy w' r := ⟨h.os, h.tape, h.output, h.size, h.block⟩
theorem grown_trans {a b c : World} {r : Option Nat} (h : a.grownBy b r) (k : b.grownBy c r) : a.grownBy c r :=
  ⟨k.os.trans h.os, k.tape.trans h.tape, k.output.trans h.output, Nat.le_trans h.size k.size, fun i hi hne => (k.block i (Nat.lt_of_lt_of_le hi h.size) hne).trans (h.block i hi hne)⟩
theorem grown_below {B : Nat} {w w' : World} {r : Option Nat} (h : w.grownBy w' r) (hB : B ≤ w.heap.size) (hr : ∀ g, r = some g → B ≤ g) : Below B w w' := (Below.refl B w).grown h hB hr
/-- an own row with one behind it: what a copy moves, and what the store behind the copy makes -/
theorem ins_pack {α : Type} {c : α → List Value} {s : Nat} {w : World} {base : Nat} {e : TypeId} {g cap n : Nat} {M : List α} {z : α} (hc : ∀ a, (c a).length = s) (hs : 0 < s) (h1 : ∀ a, ∀ u ∈ c a, u.oneCell' = true) (hn : M.length = n) (k : Nat) (hk : k ≤ n)
    (own : w.ownsRow base e s (.slice (some ⟨g, 0, none⟩) (n + 1) cap) (n + 1) (rowC c (M ++ [z]))) :
    (∀ j u, (rowC c (M.drop k))[j]? = some u → w.cell? ((⟨g, k * s, none⟩ : Addr).add j) = some u) ∧ (rowC c (M.drop k)).length = (n - k) * s ∧ (k + 1) * s + (rowC c (M.drop k)).length ≤ (rowC c (M ++ [z])).length ∧ (∀ u ∈ rowC c (M.drop k), u.oneCell' = true) ∧
    (∀ x w4, w4.ownsRow base e s (.slice (some ⟨g, 0, none⟩) (n + 1) cap) (n + 1) (splice (rowC c (M ++ [z])) ((k + 1) * s) (rowC c (M.drop k))) → w.grownBy w4 (some g) →
      (∀ t, t < s → ∃ u, w4.cell? ⟨g, k * s + t, none⟩ = some u) ∧ (∀ o, w4.frozen? ⟨g, o, none⟩ = false) ∧ (puts w4 g (rowW (k * s) (c x))).ownsRow base e s (.slice (some ⟨g, 0, none⟩) (n + 1) cap) (n + 1) (rowC c (insAt M k x)) ∧ w.grownBy (puts w4 g (rowW (k * s) (c x))) (some g)) := by
  subst hn
  have hcl : (rowC c (M.drop k)).length = (M.length - k) * s := by rw [rowC_length hc, List.length_drop]
  have hcl2 : (k + 1) * s + (rowC c (M.drop k)).length ≤ (rowC c (M ++ [z])).length := by
    rw [hcl, rowC_length hc, List.length_append, List.length_singleton, ← Nat.add_mul]
    exact Nat.mul_le_mul_right _ (by omega)
  refine ⟨fun j u hu => ?_, hcl, hcl2, rowC_one h1 _, fun x w4 own4 grow4 => ⟨fun t ht => ?_, (own_at own4).2.2.2.2.2, own_insert hc hs M z x k hk rfl own4, grown_trans grow4 (grown_puts g _ w4)⟩⟩
  · rw [Go.WideShapes.add_plain]
    refine (own_at own).2.2.2.2.1 (k * s + j) u ?_
    rw [← rowC_drop hc M k hk, List.getElem?_drop] at hu
    rw [rowC_append, List.getElem?_append_left ?_]
    · exact hu
    · rcases Nat.lt_or_ge (k * s + j) (rowC c M).length with q | q
      · exact q
      · rw [List.getElem?_eq_none q] at hu; cases hu
  · have hsl : (splice (rowC c (M ++ [z])) ((k + 1) * s) (rowC c (M.drop k))).length = (M.length + 1) * s := by rw [length_splice _ _ _ hcl2, rowC_length hc, List.length_append, List.length_singleton]
    have hkl : k * s + t < (splice (rowC c (M ++ [z])) ((k + 1) * s) (rowC c (M.drop k))).length := by
      have := Nat.mul_le_mul_right s (show k + 1 ≤ M.length + 1 by omega)
      rw [Nat.add_mul] at this
      omega
    exact ⟨_, (own_at own4).2.2.2.2.1 _ _ (List.getElem?_eq_getElem hkl)⟩
theorem grown_set (w : World) (q : Addr) (u : Value) : w.grownBy (w.setCell q u) (some q.block) := ⟨rfl, rfl, rfl, by simp [World.setCell], fun k _ hk => Below.heap_setCell w q u k (fun e => hk (by rw [e]))⟩
end Go.Proofs.Ytijegkiapbmekaa
