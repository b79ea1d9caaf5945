/- Plain: a row of entries in order, and what a statement does with it. -/
import Derived.Test.YtijegkiapbmekaaEnt
import Derived.Test.YtijegkiapbmekaaHown
import Derived.Test.YtijegkiapbmekaaRowsP
import Derived.Test.YtijegkiapbmekaaInsert
import Derived.Test.YtijegkiapbmekaaHall
import Derived.Test.YtijegkiapbmekaaHrows
import Derived.Deep.LoopGhost
import Derived.Test.YtijegkiapbmekaaOpenS
set_option maxRecDepth 100000
set_option linter.unusedVariables false
set_option linter.unusedSimpArgs false
namespace Go.Proofs.Ytijegkiapbmekaa
abbrev En := List Val × Int
def ltE (a b : En) : Prop := rowsV a.1 b.1 < 0 ∨ (a.1 = b.1 ∧ a.2 < b.2)
theorem ltE_irrefl (a : En) : ¬ ltE a a := by
  rintro (h | ⟨_, h⟩)
  · rw [rowsV_refl] at h; omega
  · omega
theorem ltE_trans (a b c : En) (h1 : ltE a b) (h2 : ltE b c) : ltE a c := by
  obtain ⟨a1, a2⟩ := a; obtain ⟨b1, b2⟩ := b; obtain ⟨c1, c2⟩ := c
  unfold ltE at *
  simp only at *
  rcases h1 with h1 | ⟨rfl, h1⟩
  · rcases h2 with h2 | ⟨rfl, h2⟩
    · exact .inl (rows_is.lt_of h1 (by omega))
    · exact .inl h1
  · rcases h2 with h2 | ⟨rfl, h2⟩
    · exact .inl h2
    · exact .inr ⟨rfl, by omega⟩
/-- two rows in a strict order that have the same elements are the same -/
theorem strict_eq {α : Type} {R : α → α → Prop} (ir : ∀ a, ¬ R a a) (tr : ∀ a b c, R a b → R b c → R a c) : ∀ (l m : List α), l.Pairwise R → m.Pairwise R → (∀ i, i ∈ l ↔ i ∈ m) → l = m
  | [], [], _, _, _ => rfl
  | [], b :: m, _, _, h => by have := (h b).2 (by simp); cases this
  | a :: l, [], _, _, h => by have := (h a).1 (by simp); cases this
  | a :: l, b :: m, hl, hm, h => by
    obtain ⟨h1, h2⟩ := List.pairwise_cons.1 hl
    obtain ⟨h3, h4⟩ := List.pairwise_cons.1 hm
    have e : a = b := by
      have ha := (h a).1 (by simp)
      have hb := (h b).2 (by simp)
      rcases List.mem_cons.1 ha with q | q
      · exact q
      · rcases List.mem_cons.1 hb with r | r
        · exact r.symm
        · exact absurd (tr _ _ _ (h1 b r) (h3 a q)) (ir a)
    subst e
    rw [strict_eq ir tr l m h2 h4 (fun i => ?_)]
    constructor
    · intro q
      have := h1 i q
      rcases List.mem_cons.1 ((h i).1 (by simp [q])) with r | r
      · subst r; exact absurd this (ir _)
      · exact r
    · intro q
      have := h3 i q
      rcases List.mem_cons.1 ((h i).2 (by simp [q])) with r | r
      · subst r; exact absurd this (ir _)
      · exact r
def SortE (M : List En) : Prop := M.Pairwise ltE
def okE (M : List En) : Prop := ∀ e ∈ M, allOk e.1
theorem sortE_eq {l m : List En} (h : SortE l) (k : SortE m) (e : ∀ i, i ∈ l ↔ i ∈ m) : l = m := strict_eq ltE_irrefl ltE_trans l m h k e
/-- the numbers that stand with a key -/
def idsOf (M : List En) (key : List Val) : List Int := (M.filter (fun e => rowsV e.1 key == 0)).map (·.2)
theorem idsOf_succ (M : List En) (key : List Val) {i : Nat} (h : i < M.length) : idsOf (M.take (i + 1)) key = if rowsV M[i].1 key = 0 then idsOf (M.take i) key ++ [M[i].2] else idsOf (M.take i) key := by
  unfold idsOf
  rw [List.take_succ_eq_append_getElem h, List.filter_append, List.map_append]
  by_cases e : rowsV M[i].1 key = 0
  · rw [if_pos e]; simp [List.filter_cons, e]
  · rw [if_neg e]; simp [List.filter_cons, e]
theorem idsOf_le (M : List En) (key : List Val) : (idsOf M key).length ≤ M.length := by
  unfold idsOf; rw [List.length_map]; exact List.length_filter_le _ _
theorem idsOf_mem {M : List En} {key : List Val} (hM : okE M) (hk : allOk key) {i : Int} : i ∈ idsOf M key ↔ (key, i) ∈ M := by
  unfold idsOf
  rw [List.mem_map]
  constructor
  · rintro ⟨⟨k, j⟩, h, rfl⟩
    obtain ⟨h1, h2⟩ := List.mem_filter.1 h
    have := rowsV_zero k key (hM _ h1) hk (by simpa using h2)
    subst this
    exact h1
  · intro h
    exact ⟨(key, i), List.mem_filter.2 ⟨h, by simp [rowsV_refl]⟩, rfl⟩
theorem idsOf_rise {M : List En} {key : List Val} (hM : okE M) (hs : SortE M) (hk : allOk key) : (idsOf M key).Pairwise (· < ·) := by
  unfold idsOf
  rw [List.pairwise_map]
  refine List.Pairwise.imp_of_mem ?_ (hs.filter _)
  intro a b ha hb hab
  obtain ⟨a1, a2⟩ := List.mem_filter.1 ha
  obtain ⟨b1, b2⟩ := List.mem_filter.1 hb
  have e1 := rowsV_zero _ _ (hM _ a1) hk (by simpa using a2)
  have e2 := rowsV_zero _ _ (hM _ b1) hk (by simpa using b2)
  rcases hab with h | ⟨_, h⟩
  · rw [e1, e2, rowsV_refl] at h; omega
  · exact h
/-- the place of an entry among the first i -/
def AtP (M : List En) (key : List Val) (id : Int) (i : Nat) (at_ : Int) : Prop :=
  (at_ = -1 ∧ ∀ e ∈ M.take i, ¬ (rowsV e.1 key = 0 ∧ e.2 = id)) ∨ ∃ k : Nat, k < i ∧ at_ = (k : Int) ∧ ∃ h : k < M.length, rowsV M[k].1 key = 0 ∧ M[k].2 = id
theorem AtP.zero (M : List En) (key : List Val) (id : Int) : AtP M key id 0 (-1) := .inl ⟨rfl, (fun e he => by simp at he)⟩
theorem AtP.no {M : List En} {key : List Val} {id : Int} {i : Nat} {a : Int} (h : AtP M key id i a) (hi : i < M.length) (hn : ¬ (rowsV M[i].1 key = 0 ∧ M[i].2 = id)) : AtP M key id (i + 1) a := by
  rcases h with ⟨rfl, h⟩ | ⟨k, h1, h2, h3⟩
  · refine .inl ⟨rfl, fun e he => ?_⟩
    rw [List.take_succ_eq_append_getElem hi] at he
    rcases List.mem_append.1 he with q | q
    · exact h e q
    · simp at q; subst q; exact hn
  · exact .inr ⟨k, by omega, h2, h3⟩
theorem AtP.yes {M : List En} {key : List Val} {id : Int} {i : Nat} (hi : i < M.length) (hn : rowsV M[i].1 key = 0 ∧ M[i].2 = id) : AtP M key id (i + 1) (i : Int) := .inr ⟨i, by omega, rfl, hi, hn⟩
theorem AtP.mem {M : List En} {key : List Val} {id : Int} {a : Int} (hM : okE M) (hk : allOk key) (h : AtP M key id M.length a) :
    (a = -1 ∧ (key, id) ∉ M) ∨ ∃ k : Nat, a = (k : Int) ∧ ∃ h : k < M.length, M[k] = (key, id) := by
  rcases h with ⟨rfl, h⟩ | ⟨k, _, h2, h3, h4, h5⟩
  · refine .inl ⟨rfl, fun q => ?_⟩
    rw [List.take_length] at h
    exact h _ q ⟨rowsV_refl _, rfl⟩
  · refine .inr ⟨k, h2, h3, ?_⟩
    have := rowsV_zero _ _ (hM _ (List.getElem_mem h3)) hk h4
    exact Prod.ext this h5
/-- does an entry stand ahead of another? -/
def ahead (e : En) (key : List Val) (id : Int) : Prop := rowsV e.1 key < 0 ∨ (rowsV e.1 key = 0 ∧ e.2 < id)
theorem ahead_lt {e : En} {key : List Val} {id : Int} (he : allOk e.1) (hk : allOk key) (h : ahead e key id) : ltE e (key, id) := by
  rcases h with h | ⟨h, h2⟩
  · exact .inl h
  · exact .inr ⟨rowsV_zero _ _ he hk h, h2⟩
theorem not_ahead {e : En} {key : List Val} {id : Int} (he : allOk e.1) (hk : allOk key) (h : ¬ ahead e key id) (hne : e ≠ (key, id)) : ltE (key, id) e := by
  obtain ⟨k, j⟩ := e
  unfold ahead at h
  simp only at h he
  have ha := rows_is.anti k key
  by_cases h0 : rowsV k key = 0
  · have := rowsV_zero _ _ he hk h0
    subst this
    refine .inr ⟨rfl, ?_⟩
    have h1 : ¬ j < id := fun q => h (.inr ⟨h0, q⟩)
    have h2 : j ≠ id := fun q => hne (by rw [q])
    show id < j
    omega
  · refine .inl ?_
    show rowsV key k < 0
    have h1 : ¬ rowsV k key < 0 := fun q => h (.inl q)
    omega
/-- the place at which an entry is to stand -/
structure PlE (M : List En) (key : List Val) (id : Int) (k : Nat) : Prop where
  le : k ≤ M.length
  lo : ∀ e ∈ M.take k, ahead e key id
  hi : ∀ h : k < M.length, ¬ ahead M[k] key id
theorem PlE.sort {M : List En} {key : List Val} {id : Int} {k : Nat} (h : PlE M key id k) (hM : okE M) (hs : SortE M) (hk : allOk key) (hno : (key, id) ∉ M) : SortE (insAt M k (key, id)) := by
  refine insAt_pairwise hs (fun y hy => ahead_lt (hM _ (List.mem_of_mem_take hy)) hk (h.lo y hy)) (fun y hy => ?_)
  have hkl : k < M.length := by
    rcases Nat.lt_or_ge k M.length with q | q
    · exact q
    · rw [List.drop_eq_nil_of_le q] at hy; cases hy
  have h1 : ltE (key, id) M[k] := not_ahead (hM _ (List.getElem_mem hkl)) hk (h.hi hkl) (fun e => hno (e ▸ List.getElem_mem hkl))
  rw [List.drop_eq_getElem_cons hkl] at hy
  rcases List.mem_cons.1 hy with rfl | hy
  · exact h1
  · have hs2 : (M.drop k).Pairwise ltE := List.Pairwise.sublist (List.drop_sublist _ _) hs
    rw [List.drop_eq_getElem_cons hkl] at hs2
    exact ltE_trans _ _ _ h1 ((List.pairwise_cons.1 hs2).1 y hy)
theorem insAt_memE {M : List En} {k : Nat} {x e : En} : e ∈ insAt M k x ↔ e ∈ M ∨ e = x := by
  rw [(insAt_perm M k x).mem_iff, List.mem_cons, or_comm]
/-- one taken out -/
def delAt {α : Type} (M : List α) (k : Nat) : List α := M.take k ++ M.drop (k + 1)
theorem delAt_length {α : Type} (M : List α) {k : Nat} (h : k < M.length) : (delAt M k).length + 1 = M.length := by
  unfold delAt; simp; omega
theorem delAt_sort {M : List En} (hs : SortE M) (k : Nat) : SortE (delAt M k) := by
  unfold delAt
  have h' : SortE M := hs
  refine List.Pairwise.sublist ?_ hs
  have : (M.take k ++ M.drop (k + 1)).Sublist (M.take k ++ M.drop k) := List.Sublist.append (List.Sublist.refl _) (by
    rw [← List.drop_drop]
    exact List.drop_sublist _ _)
  rwa [List.take_append_drop] at this
theorem delAt_mem {M : List En} (hs : SortE M) {k : Nat} (h : k < M.length) {e : En} : e ∈ delAt M k ↔ e ∈ M ∧ e ≠ M[k] := by
  have hsp : M = M.take k ++ M[k] :: M.drop (k + 1) := by
    rw [← List.drop_eq_getElem_cons h, List.take_append_drop]
  have hp : (M.take k ++ M[k] :: M.drop (k + 1)).Pairwise ltE := by rw [← hsp]; exact hs
  obtain ⟨p1, p2, p3⟩ := List.pairwise_append.1 hp
  obtain ⟨p4, p5⟩ := List.pairwise_cons.1 p2
  unfold delAt
  constructor
  · intro he
    refine ⟨?_, fun q => ?_⟩
    · rw [hsp]
      rcases List.mem_append.1 he with q | q
      · exact List.mem_append.2 (.inl q)
      · exact List.mem_append.2 (.inr (List.mem_cons.2 (.inr q)))
    · rcases List.mem_append.1 he with r | r
      · exact ltE_irrefl _ (q ▸ p3 e r M[k] (List.mem_cons_self))
      · exact ltE_irrefl _ (q ▸ p4 e r)
  · rintro ⟨he, hne⟩
    rw [hsp] at he
    rcases List.mem_append.1 he with q | q
    · exact List.mem_append.2 (.inl q)
    · rcases List.mem_cons.1 q with r | r
      · exact absurd r hne
      · exact List.mem_append.2 (.inr r)
/-- the entries of chains in order are in order -/
theorem entsOf_mem {S : List Chn} {k : List Val} {i : Int} : (k, i) ∈ entsOf S ↔ Mem S k i := by
  unfold entsOf Mem
  rw [List.mem_flatMap]
  constructor
  · rintro ⟨c, hc, h⟩
    obtain ⟨j, hj, e⟩ := List.mem_map.1 h
    injection e with e1 e2
    subst e1 e2
    exact ⟨c, hc, rfl, hj⟩
  · rintro ⟨c, hc, rfl, hj⟩
    exact ⟨c, hc, List.mem_map.2 ⟨i, hj, rfl⟩⟩
theorem entsOf_sort : ∀ {S : List Chn}, S.Pairwise (fun a b => rowsV a.key b.key < 0) → (∀ c ∈ S, c.ids.Pairwise (· < ·)) → SortE (entsOf S)
  | [], _, _ => List.Pairwise.nil
  | c :: S, h, hi => by
    obtain ⟨h1, h2⟩ := List.pairwise_cons.1 h
    have ih := entsOf_sort h2 (fun a ha => hi a (by simp [ha]))
    show SortE (c.ids.map (fun i => (c.key, i)) ++ entsOf S)
    refine List.pairwise_append.2 ⟨?_, ih, ?_⟩
    · rw [List.pairwise_map]
      exact (hi c (by simp)).imp (fun q => .inr ⟨rfl, q⟩)
    · rintro ⟨k, i⟩ ha ⟨k', i'⟩ hb
      obtain ⟨j, hj, e⟩ := List.mem_map.1 ha
      injection e with e1 e2
      subst e1 e2
      obtain ⟨a, ha', rfl, _⟩ := entsOf_mem.1 hb
      exact .inl (h1 a ha')
end Go.Proofs.Ytijegkiapbmekaa

/- HashPlays: a statement's own index, beside blocks of the statement's own. -/
set_option maxRecDepth 100000
set_option linter.unusedVariables false
set_option linter.unusedSimpArgs false
namespace Go.Proofs.Ytijegkiapbmekaa
open Go.RowKit
/-- an index that holds the pairs I, with at most i changes behind it; the blocks X are none of its own -/
def StI (w W : World) (p : Nat) (u : Bool) (n i : Nat) (X : Nat → Prop) (I : List En) : Prop :=
  ∃ C F, HG w W p u (n : Int) i C F ∧ (∀ g, X g → g < W.heap.size ∧ ¬ F g) ∧ ∀ e : En, e ∈ I ↔ Mem C e.1 e.2
section
variable {w W W' : World} {p : Nat} {u : Bool} {n i : Nat} {X X' : Nat → Prop} {I I' : List En} {key : List Val} {id : Int}
theorem StI.bel (h : StI w W p u n i X I) : Below w.heap.size w W := by obtain ⟨C, F, h1, _⟩ := h; exact h1.bel
theorem StI.xlt (h : StI w W p u n i X I) : ∀ g, X g → g < W.heap.size := by obtain ⟨C, F, h1, h2, _⟩ := h; exact fun g hg => (h2 g hg).1
/-- blocks of the statement's own are written, and others are made -/
theorem StI.wrote (h : StI w W p u n i X I) (hc : Chg X W W') (hl : ∀ g, X g → w.heap.size ≤ g) (hX : ∀ g, X' g → g < W'.heap.size ∧ (X g ∨ W.heap.size ≤ g)) : StI w W' p u n i X' I := by
  obtain ⟨C, F, h1, h2, h3⟩ := h
  refine ⟨C, F, h1.beside hc (fun k hk q => (h2 k q).2 hk) hl, fun g hg => ⟨(hX g hg).1, fun q => ?_⟩, h3⟩
  rcases (hX g hg).2 with r | r
  · exact (h2 g r).2 q
  · have := h1.lt g q; omega
theorem StI.below (h : StI w W p u n i X I) (hb : Below W.heap.size W W') : StI w W' p u n i X I := by
  obtain ⟨C, F, h1, h2, h3⟩ := h
  exact ⟨C, F, h1.below hb, fun g hg => ⟨Nat.lt_of_lt_of_le (h2 g hg).1 hb.size, (h2 g hg).2⟩, h3⟩
theorem StI.onto (h : StI w W p u n i X I) (hb : Below W.heap.size W W') (hX : ∀ g, X' g → g < W'.heap.size ∧ (X g ∨ W.heap.size ≤ g)) : StI w W' p u n i X' I := by
  obtain ⟨C, F, h1, h2, h3⟩ := h
  refine ⟨C, F, h1.below hb, fun g hg => ⟨(hX g hg).1, fun q => ?_⟩, h3⟩
  rcases (hX g hg).2 with r | r
  · exact (h2 g r).2 q
  · have := h1.lt g q; omega
theorem StI.congr (h : StI w W p u n i X I) (e : ∀ x, x ∈ I' ↔ x ∈ I) : StI w W p u n i X I' := by
  obtain ⟨C, F, h1, h2, h3⟩ := h
  exact ⟨C, F, h1, h2, fun x => (e x).trans (h3 x)⟩
theorem StI.new {W0 : World} (hb : Below W0.heap.size W0 W) (u : Bool) : Calls Try.prog 8 #[.bool u] W fun e w' => ∃ p, e = .returned (.pointer (some ⟨p, 0, none⟩)) ∧ Hid (StI W0 w' p u 0 0 (fun _ => False) []) :=
  (hg_new u hb).mono (by
    rintro e w' ⟨p, F, rfl, h⟩
    exact ⟨p, rfl, Lib.hid ⟨[], F, h.out.1, (fun g hg => hg.elim), fun x => ⟨(fun q => by cases q), (fun q => by obtain ⟨c, hc, _⟩ := q; cases hc)⟩⟩⟩)
theorem StI.find (h : StI w W p u n i X I) (hi : i ≤ 100) (A : Option Addr) (ca : Nat) (hok : allOk key) (lk : key.length ≤ 1000) (ha : ValsIn W A key) (hIok : okE I) (hs : SortE I) :
    Calls Try.prog 11 #[.pointer (some ⟨p, 0, none⟩), .slice A key.length ca] W fun e w' => ∃ B cb, e = .returned (.slice B (idsOf I key).length cb) ∧ Hid (RowIn intC 1 w' B (idsOf I key) ∧ Below W.heap.size W w') := by
  obtain ⟨C, F, h1, h2, h3⟩ := h
  refine (hg_find h1 (by omega) A ca hok lk ha).mono ?_
  rintro e w' ⟨v, ids, rfl, hX⟩
  obtain ⟨q1, q2, q3, q4, q5⟩ := hX.out
  have e : ids = idsOf I key := rise_eq _ _ q2 (idsOf_rise hIok hs hok) (fun j => by rw [q4, idsOf_mem hIok hok, h3])
  subst e
  obtain ⟨B, cb, rfl⟩ := own_form9 q1
  have e1 : w'.ownsRow W.heap.size 2 1 (.slice B (idsOf I key).length cb) (idsOf I key).length (rowC intC (idsOf I key)) := by rw [rowC_int]; exact q1
  obtain ⟨A9, c9, e9, _, _, _, q9⟩ := rowIn_own (c := intC) (s := 1) (fun _ => rfl) rfl e1
  injection e9 with e9
  subst e9
  exact ⟨B, cb, rfl, Lib.hid ⟨q9, q5⟩⟩
theorem StI.has (h : StI w W p u n i X I) (hi : i ≤ 100) (A : Option Addr) (ca : Nat) (hok : allOk key) (lk : key.length ≤ 1000) (ha : ValsIn W A key) (id : Int) (r : Bool) (hr : r = true ↔ (key, id) ∈ I) :
    Gives Try.prog 15 #[.pointer (some ⟨p, 0, none⟩), .slice A key.length ca, .int .i64 id] W (.bool r) := by
  obtain ⟨C, F, h1, h2, h3⟩ := h
  exact hg_has h1 (by omega) A ca hok lk ha id r (hr.trans (h3 (key, id)))
theorem StI.len (h : StI w W p u n i X I) : Calls Try.prog 19 #[.pointer (some ⟨p, 0, none⟩)] W fun e w' => e = .returned (.int .i64 n) ∧ W = w' := by
  obtain ⟨C, F, h1, h2, h3⟩ := h
  exact hg_len h1
theorem StI.ins_old (h : StI w W p u n i X I) (hi : i ≤ 100) (hn : n ≤ 100) (A : Option Addr) (ca : Nat) (hok : allOk key) (lk : key.length ≤ 1000) (hA : A = none → ca = 0 ∧ key.length = 0) (ha : ValsIn W A key) (id : Int) (er : Int)
    (her : ((key, id) ∈ I ∧ er = 72) ∨ ((key, id) ∉ I ∧ u = true ∧ (∃ j, (key, j) ∈ I) ∧ er = 80)) :
    Calls Try.prog 9 #[.pointer (some ⟨p, 0, none⟩), .slice A key.length ca, .int .i64 id] W fun e w' => e = .returned (.int .i64 er) ∧ Hid (StI w w' p u n (i + 1) X I ∧ ∀ g, X g → w'.heap[g]? = W.heap[g]?) := by
  obtain ⟨C, F, h1, h2, h3⟩ := h
  refine (hg_insert h1 (by omega) ⟨by omega, by omega⟩ A ca hok lk hA ha id).mono ?_
  rintro e w' ⟨er', n', C', F', rfl, hX⟩
  obtain ⟨q1, q2, q3, q4⟩ := hX.out
  have hXF : ∀ g, X g → g < w'.heap.size ∧ ¬ F' g := fun g hg => ⟨Nat.lt_of_lt_of_le (h2 g hg).1 q3.size, fun q => (q4.2 g q).elim (h2 g hg).2 (fun r => by have := (h2 g hg).1; omega)⟩
  have hXb : ∀ g, X g → w'.heap[g]? = W.heap[g]? := fun g hg => q3.block g (h2 g hg).1 (h2 g hg).2
  have hm := h3 (key, id)
  simp only at hm
  rcases q2 with ⟨a1, rfl, rfl, rfl⟩ | ⟨a1, a2, a3, rfl, rfl, rfl⟩ | ⟨a1, a2, rfl, rfl, a5⟩
  · rcases her with ⟨b1, rfl⟩ | ⟨b1, _⟩
    · exact ⟨rfl, Lib.hid ⟨⟨C', F', q1, hXF, h3⟩, hXb⟩⟩
    · exact absurd (hm.2 a1) b1
  · rcases her with ⟨b1, _⟩ | ⟨b1, b2, b3, rfl⟩
    · exact absurd (hm.1 b1) a1
    · exact ⟨rfl, Lib.hid ⟨⟨C', F', q1, hXF, h3⟩, hXb⟩⟩
  · rcases her with ⟨b1, _⟩ | ⟨b1, b2, ⟨j, b3⟩, rfl⟩
    · exact absurd (hm.1 b1) a1
    · exact absurd ((h3 (key, j)).1 b3) (a2 b2 j)
theorem StI.ins_new (h : StI w W p u n i X I) (hi : i ≤ 100) (hn : n ≤ 100) (A : Option Addr) (ca : Nat) (hok : allOk key) (lk : key.length ≤ 1000) (hA : A = none → ca = 0 ∧ key.length = 0) (ha : ValsIn W A key) (id : Int)
    (hno : (key, id) ∉ I) (hu : u = true → ∀ j, (key, j) ∉ I) (hI' : ∀ e, e ∈ I' ↔ e ∈ I ∨ e = (key, id)) :
    Calls Try.prog 9 #[.pointer (some ⟨p, 0, none⟩), .slice A key.length ca, .int .i64 id] W fun e w' => e = .returned (.int .i64 0) ∧ Hid (StI w w' p u (n + 1) (i + 1) X I' ∧ ∀ g, X g → w'.heap[g]? = W.heap[g]?) := by
  obtain ⟨C, F, h1, h2, h3⟩ := h
  refine (hg_insert h1 (by omega) ⟨by omega, by omega⟩ A ca hok lk hA ha id).mono ?_
  rintro e w' ⟨er', n', C', F', rfl, hX⟩
  obtain ⟨q1, q2, q3, q4⟩ := hX.out
  have hXF : ∀ g, X g → g < w'.heap.size ∧ ¬ F' g := fun g hg => ⟨Nat.lt_of_lt_of_le (h2 g hg).1 q3.size, fun q => (q4.2 g q).elim (h2 g hg).2 (fun r => by have := (h2 g hg).1; omega)⟩
  have hXb : ∀ g, X g → w'.heap[g]? = W.heap[g]? := fun g hg => q3.block g (h2 g hg).1 (h2 g hg).2
  have hm := h3 (key, id)
  simp only at hm
  rcases q2 with ⟨a1, _⟩ | ⟨a1, a2, ⟨j, a3⟩, _⟩ | ⟨a1, a2, rfl, rfl, a5⟩
  · exact absurd (hm.2 a1) hno
  · exact absurd ((h3 (key, j)).2 a3) (hu a2 j)
  · refine ⟨rfl, Lib.hid ⟨⟨C', F', q1, hXF, fun e => ?_⟩, hXb⟩⟩
    rw [hI', h3, a5, Prod.ext_iff]
theorem StI.era_no (h : StI w W p u n i X I) (hi : i ≤ 100) (hn : n ≤ 100) (A : Option Addr) (ca : Nat) (hok : allOk key) (lk : key.length ≤ 1000) (ha0 : ValsIn w A key) (id : Int) (hno : (key, id) ∉ I) :
    Calls Try.prog 18 #[.pointer (some ⟨p, 0, none⟩), .slice A key.length ca, .int .i64 id] W fun e w' => e = .returned (.int .i64 71) ∧ Hid (StI w w' p u n (i + 1) X I ∧ ∀ g, X g → w'.heap[g]? = W.heap[g]?) := by
  have ha := ha0.below h.bel
  obtain ⟨C, F, h1, h2, h3⟩ := h
  have hAF : ∀ x, A = some x → 0 < key.length → ¬ F x.block := fun x e hl q => by
    obtain ⟨b, o, e2, hb, _⟩ := ha0 0 hl
    rw [e] at e2
    injection e2 with e2
    subst e2
    have := h1.low _ q
    simp at this
    omega
  refine (hg_erase h1 (by omega) ⟨by omega, by omega⟩ A ca hok lk hAF ha id).mono ?_
  rintro e w' ⟨er', n', C', F', rfl, hX⟩
  obtain ⟨q1, q2, q3, q4⟩ := hX.out
  have hXF : ∀ g, X g → g < w'.heap.size ∧ ¬ F' g := fun g hg => ⟨Nat.lt_of_lt_of_le (h2 g hg).1 q3.size, fun q => (q4.2 g q).elim (h2 g hg).2 (fun r => by have := (h2 g hg).1; omega)⟩
  have hXb : ∀ g, X g → w'.heap[g]? = W.heap[g]? := fun g hg => q3.block g (h2 g hg).1 (h2 g hg).2
  rcases q2 with ⟨a1, rfl, rfl, rfl⟩ | ⟨a1, _⟩
  · exact ⟨rfl, Lib.hid ⟨⟨C', F', ⟨q1.hm, q1.bel, q1.low, q1.good.mono (by omega)⟩, hXF, h3⟩, hXb⟩⟩
  · exact absurd ((h3 (key, id)).2 a1) hno
theorem StI.era_yes (h : StI w W p u n i X I) (hi : i ≤ 100) (hn : n ≤ 100) (hn0 : 0 < n) (A : Option Addr) (ca : Nat) (hok : allOk key) (lk : key.length ≤ 1000) (ha0 : ValsIn w A key) (id : Int) (hyes : (key, id) ∈ I) (hI' : ∀ e, e ∈ I' ↔ e ∈ I ∧ e ≠ (key, id)) :
    Calls Try.prog 18 #[.pointer (some ⟨p, 0, none⟩), .slice A key.length ca, .int .i64 id] W fun e w' => e = .returned (.int .i64 0) ∧ Hid (StI w w' p u (n - 1) (i + 1) X I' ∧ ∀ g, X g → w'.heap[g]? = W.heap[g]?) := by
  have ha := ha0.below h.bel
  obtain ⟨C, F, h1, h2, h3⟩ := h
  have hAF : ∀ x, A = some x → 0 < key.length → ¬ F x.block := fun x e hl q => by
    obtain ⟨b, o, e2, hb, _⟩ := ha0 0 hl
    rw [e] at e2
    injection e2 with e2
    subst e2
    have := h1.low _ q
    simp at this
    omega
  refine (hg_erase h1 (by omega) ⟨by omega, by omega⟩ A ca hok lk hAF ha id).mono ?_
  rintro e w' ⟨er', n', C', F', rfl, hX⟩
  obtain ⟨q1, q2, q3, q4⟩ := hX.out
  have hXF : ∀ g, X g → g < w'.heap.size ∧ ¬ F' g := fun g hg => ⟨Nat.lt_of_lt_of_le (h2 g hg).1 q3.size, fun q => (q4.2 g q).elim (h2 g hg).2 (fun r => by have := (h2 g hg).1; omega)⟩
  have hXb : ∀ g, X g → w'.heap[g]? = W.heap[g]? := fun g hg => q3.block g (h2 g hg).1 (h2 g hg).2
  rcases q2 with ⟨a1, _⟩ | ⟨a1, rfl, rfl, a5⟩
  · exact absurd ((h3 (key, id)).1 hyes) a1
  · have en : ((n : Int) - 1) = ((n - 1 : Nat) : Int) := by omega
    rw [en] at q1
    refine ⟨rfl, Lib.hid ⟨⟨C', F', ⟨q1.hm, q1.bel, q1.low, q1.good.mono (by omega)⟩, hXF, fun e => ?_⟩, hXb⟩⟩
    rw [hI', h3, a5, Ne, Prod.ext_iff]
end
end Go.Proofs.Ytijegkiapbmekaa

/- Package hashidx: All, by the pairs that the index holds. -/
set_option maxRecDepth 100000
set_option linter.unusedVariables false
set_option linter.unusedSimpArgs false
namespace Go.Proofs.Ytijegkiapbmekaa
open Go.RowKit
theorem hg_all {w0 w : World} {F : Nat → Prop} {p : Nat} {u : Bool} {n : Int} {C : List Chn} {k : Nat} (h : HG w0 w p u n k C F) (hk : k ≤ 900) (I : List En) (hs : SortE I) (hI : ∀ e : En, e ∈ I ↔ Mem C e.1 e.2) :
    Calls Try.prog 20 #[.pointer (some ⟨p, 0, none⟩)] w fun e w' => ∃ (A : Option Addr) (cp : Nat) (Q : List Ent), e = .returned (.slice A Q.length cp) ∧ Hid (EntsOk w' w.heap.size A cp Q ∧ Q.map entP = I ∧ Below w.heap.size w w') := by
  obtain ⟨⟨M, D, h1⟩, h2, h3, g⟩ := h
  refine (hall_any h1 (Nat.le_trans g.len hk) (fun c hc => Nat.le_trans (g.le c hc) hk)).mono ?_
  rintro e w' ⟨A, cp, Q, S, rfl, hX⟩
  obtain ⟨q1, q2, q3, q4, q5⟩ := hX.out
  refine ⟨A, cp, Q, rfl, Lib.hid ⟨q1, ?_, q5⟩⟩
  rw [q2]
  have hk1 : S.Pairwise (fun a b => a.key ≠ b.key) := (q3.pairwise_iff (fun h e => h e.symm)).2 h1.keys
  have hlt : S.Pairwise (fun a b => rowsV a.key b.key < 0) := List.Pairwise.imp_of_mem (fun {a b} ha hb (hab : rowsV a.key b.key ≤ 0 ∧ a.key ≠ b.key) => by
    rcases Int.lt_or_eq_of_le hab.1 with q | q
    · exact q
    · exact absurd (rowsV_zero _ _ (h1.each a (q3.subset ha)).kok (h1.each b (q3.subset hb)).kok q) hab.2) (q4.and hk1)
  refine sortE_eq (entsOf_sort hlt (fun c hc => g.srt c (q3.subset hc))) hs (fun e => ?_)
  obtain ⟨k', i⟩ := e
  rw [entsOf_mem, hI]
  constructor
  · rintro ⟨c, hc, q⟩; exact ⟨c, q3.subset hc, q⟩
  · rintro ⟨c, hc, q⟩; exact ⟨c, q3.symm.subset hc, q⟩
theorem StI.all {w W : World} {p : Nat} {u : Bool} {n i : Nat} {X : Nat → Prop} {I : List En} (h : StI w W p u n i X I) (hi : i ≤ 100) (hs : SortE I) :
    Calls Try.prog 20 #[.pointer (some ⟨p, 0, none⟩)] W fun e w' => ∃ (A : Option Addr) (cp : Nat) (Q : List Ent), e = .returned (.slice A Q.length cp) ∧ Hid (EntsOk w' W.heap.size A cp Q ∧ Q.map entP = I ∧ Below W.heap.size W w') := by
  obtain ⟨C, F, h1, h2, h3⟩ := h
  exact hg_all h1 (by omega) I hs h3
end Go.Proofs.Ytijegkiapbmekaa

/- HashPlays: the reference's find; entries held against one another. -/
set_option maxRecDepth 100000
set_option linter.unusedVariables false
set_option linter.unusedSimpArgs false
namespace Go.Proofs.Ytijegkiapbmekaa
open Go.RowKit
attribute [local go_sem] run_frombits run_tobits more_more more_drew more_drewN more_size more_cell more_frozen run_store_float lt_c1 le_c1 lt_s1 le_s1 lt_c2 le_c2 lt_s2 le_s2 lt_c3 le_c3 lt_s3 le_s3 lt_c4 le_c4 lt_s4 le_s4 lt_c5 le_c5 lt_s5 le_s5 lt_c6 le_c6 lt_s6 le_s6 lt_c7 le_c7 lt_s7 le_s7 lt_c8 le_c8 lt_s8 le_s8 lt_c9 le_c9 lt_s9 le_s9 lt_c10 le_c10 lt_s10 le_s10 lt_c11 le_c11 lt_s11 le_s11 lt_c12 le_c12 lt_s12 le_s12 le_c0
theorem row_ent {w W : World} {A : Option Addr} {Q : List Ent} {j : Nat} (h : RowIn entC 2 w A Q) (hB : Below w.heap.size w W) (hj : j < Q.length) :
    ∃ b off, A = some ⟨b, off, none⟩ ∧ W.cell? ⟨b, off + j * 2, none⟩ = some (.slice Q[j].kA Q[j].key.length Q[j].kc) ∧ W.cell? ⟨b, off + j * 2 + 1, none⟩ = some (.int .i64 Q[j].id) := by
  obtain ⟨b, off, e, hb, hc⟩ := h j hj
  refine ⟨b, off, e, ?_, ?_⟩
  · exact (hB.cell (p := ⟨b, off + j * 2 + 0, none⟩) hb).trans (hc j hj 0 _ rfl)
  · exact (hB.cell (p := ⟨b, off + j * 2 + 1, none⟩) hb).trans (hc j hj 1 _ rfl)
/-- keys that may be compared -/
def keysE (w : World) (Q : List Ent) : Prop := ∀ q ∈ Q, ValsIn w q.kA q.key ∧ allOk q.key ∧ q.key.length ≤ 1000
theorem keysE.below {w w' : World} {Q : List Ent} (h : keysE w Q) (hB : Below w.heap.size w w') : keysE w' Q := fun q hq => by
  obtain ⟨h1, h2, h3⟩ := h q hq
  exact ⟨h1.below hB, h2, h3⟩
set_option maxHeartbeats 2000000 in
theorem find10_any (A : Option Addr) (c : Nat) (Q : List Ent) (kA : Option Addr) (kc : Nat) (key : List Val) (id : Int) (w : World) (lq : Q.length ≤ 1000) (ha : RowIn entC 2 w A Q) (hk : keysE w Q) (hv : ValsIn w kA key) (hok : allOk key) (lk : key.length ≤ 1000) :
    Calls Try.prog 21 #[.slice A Q.length c, .slice kA key.length kc, .int .i64 id] w fun e w' => ∃ (vA : Option Addr) (vc : Nat) (at_ : Int), e = .returned (.tuple #[.slice vA (idsOf (Q.map entP) key).length vc, .int .i64 at_]) ∧ Hid (w'.ownsRow w.heap.size 2 1 (.slice vA (idsOf (Q.map entP) key).length vc) (idsOf (Q.map entP) key).length ((idsOf (Q.map entP) key).map idI) ∧ AtP (Q.map entP) key id Q.length at_ ∧ Below w.heap.size w w') := by
  have HC := Lib.hid (show ∀ j (hj : j < Q.length) W, Below w.heap.size w W → (∃ b off, A = some ⟨b, off, none⟩ ∧ W.cell? ⟨b, off + j * 2, none⟩ = some (.slice Q[j].kA Q[j].key.length Q[j].kc) ∧ W.cell? ⟨b, off + j * 2 + 1, none⟩ = some (.int .i64 Q[j].id)) from fun j hj W hB => row_ent ha hB hj)
  have HR := Lib.hid (show ∀ j (hj : j < Q.length) W, Below w.heap.size w W → Gives Try.prog 22 #[.slice Q[j].kA Q[j].key.length Q[j].kc, .slice kA key.length kc] W (.int .i64 (rowsV Q[j].key key)) from fun j hj W hB => by
    obtain ⟨h1, h2, h3⟩ := hk _ (List.getElem_mem hj)
    exact rows_ref _ _ _ _ _ _ h2 hok W (by omega) (by omega) (h1.below hB) (hv.below hB))
  clear ha hk hv hok
  obtain ⟨M, hM⟩ : ∃ M, M = Q.map entP := ⟨_, rfl⟩
  have hMl : M.length = Q.length := by rw [hM]; simp
  have hMg := Lib.hid (show ∀ j (hj : j < Q.length) (hj2 : j < M.length), M[j].1 = Q[j].key ∧ M[j].2 = Q[j].id from fun j hj hj2 => by subst hM; simp [entP])
  rw [← hM]
  clear hM
  go_enter Try.func21, Try.ntmps21
  go_wp2_with fail
  go_loopg [8, 9, 10] Q.length (fun k s8 s9 s10 W => ∃ (i : Nat) (vA : Option Addr) (vc : Nat) (a : Int), k = Q.length - i ∧ i ≤ Q.length ∧ s10 = .int .i64 (i : Nat) ∧ s9 = .int .i64 a ∧ s8 = .slice vA (idsOf (M.take i) key).length vc ∧ Hid (W.ownsRow w.heap.size 2 1 (.slice vA (idsOf (M.take i) key).length vc) (idsOf (M.take i) key).length ((idsOf (M.take i) key).map idI) ∧ AtP M key id i a ∧ Below w.heap.size w W))
  case atStart => exact ⟨0, none, 0, -1, by omega, by omega, rfl, rfl, rfl, Lib.hid ⟨World.ownsRow_nil _ _ _ _, AtP.zero _ _ _, Below.refl _ _⟩⟩
  case round =>
    obtain ⟨i, vA, vc, a, rfl, hi, rfl, rfl, rfl, hI⟩ := hrel
    by_cases h1 : i < Q.length
    · have h1' : (i : Int) < (Q.length : Int) := by omega
      have hi2 : i < M.length := by omega
      have hL : Hid ((idsOf (M.take i) key).length ≤ 1000) := Lib.hid (by have := idsOf_le (M.take i) key; have := List.length_take_le i M; omega)
      obtain ⟨b, off, rfl, c0, c1⟩ := HC.out i h1 wr hI.out.2.2
      have R := Lib.hid (HR.out i h1 wr hI.out.2.2)
      have HC1 := Lib.hid (fun W hB => (HC.out i h1 W hB))
      obtain ⟨g1, g2⟩ := hMg.out i h1 hi2
      have hS := Lib.hid (idsOf_succ M key hi2)
      have hNo := Lib.hid (fun h => hI.out.2.1.no hi2 h)
      have hYes := Lib.hid (fun h => AtP.yes (key := key) (id := id) hi2 h)
      rw [g1] at hS hNo hYes
      rw [g2] at hS hNo hYes
      clear g1 g2
      generalize Q[i] = q at *
      generalize hr : rowsV q.key key = r at *
      clear hr
      go_wp2_with fail
      refine R.out.mono' ?_; intro y
      have hB2 := hI.out.2.2.trans ((more_below wr y).mono hI.out.2.2.size)
      have own := Lib.hid (show (more wr y).ownsRow w.heap.size 2 1 (.slice vA (idsOf (M.take i) key).length vc) (idsOf (M.take i) key).length ((idsOf (M.take i) key).map idI) from own_same hI.out.1 (fun g2 e2 => (more_below wr y).block g2 (own_lt9 hI.out.1 g2 e2)))
      obtain ⟨b9, off9, e9, d0, d1⟩ := HC1.out _ hB2
      injection e9 with e9
      injection e9 with e9 e10
      subst e9 e10
      replace hB2 := Lib.hid hB2
      clear R c0 c1
      generalize more wr y = W1 at *
      by_cases hr0 : r = 0
      · subst hr0
        rw [if_pos rfl] at hS
        obtain ⟨i0, hi0, hz0, hz1, hz2⟩ := info_parts info_i64
        have news := Lib.hid (show ∀ ad, some (⟨W1.heap.size, 0, none⟩ : Addr) = some ad → ∀ j u, [idI q.id][j]? = some u → (W1.alloc (.cells #[.int .i64 q.id] 2)).cell? (ad.add j) = some u from fun ad e j u hu => by
          cases e
          exact cells_at W1 [idI q.id] _ rfl j u hu)
        have ownA := Lib.hid (own.out.alloc (.cells #[.int .i64 q.id] 2))
        have hsz : Hid (w.heap.size ≤ (W1.alloc (.cells #[.int .i64 q.id] 2)).heap.size) := Lib.hid (by have := hB2.out.size; simp; omega)
        have hL9 := hL.out
        have el : (idsOf (M.take i) key).length + 1 = (idsOf (M.take (i + 1)) key).length := by rw [hS.out]; simp
        have AF := Lib.hid (show ∀ v2 W2, W2.ownsRow w.heap.size 2 1 v2 ((idsOf (M.take i) key).length + 1) ((idsOf (M.take i) key).map idI ++ [idI q.id]) → (W1.alloc (.cells #[.int .i64 q.id] 2)).grownBy W2 (Value.slice vA (idsOf (M.take i) key).length vc).ownBlock → ∃ vA2 vc2, v2 = .slice vA2 ((idsOf (M.take i) key).length + 1) vc2 ∧ W2.cell? ⟨b, off + i * 2 + 1, none⟩ = some (.int .i64 q.id) ∧ Hid (W2.ownsRow w.heap.size 2 1 (.slice vA2 (idsOf (M.take (i + 1)) key).length vc2) (idsOf (M.take (i + 1)) key).length ((idsOf (M.take (i + 1)) key).map idI)) ∧ Hid (Below w.heap.size w W2) from fun v2 W2 own2 grow2 => by
          obtain ⟨vA2, vc2, rfl⟩ := own_form9 own2
          have hB3 : Below w.heap.size w W2 := (hB2.out.trans ((show Below W1.heap.size W1 (W1.alloc (.cells #[.int .i64 q.id] 2)) from (by repeat (first | (with_reducible exact Below.refl _ _) | (with_reducible refine Below.drew ?_) | (with_reducible refine Below.alloc ?_ (by simp [more_size]; try omega) _) | (with_reducible refine Below.setCell ?_ (by simp [more_size]; try omega) _) | (with_reducible refine below_more ?_ _ (by simp [more_size]; try omega))))).mono hB2.out.size)).trans (grown_below grow2 hsz.out (fun g2 e2 => own_ge own.out g2 e2))
          have hown3 : Hid (W2.ownsRow w.heap.size 2 1 (.slice vA2 (idsOf (M.take (i + 1)) key).length vc2) (idsOf (M.take (i + 1)) key).length ((idsOf (M.take (i + 1)) key).map idI)) := Lib.hid (by rw [hS.out]; simpa using own2)
          obtain ⟨b9, off9, e9, d2, d3⟩ := HC1.out W2 hB3
          injection e9 with e9
          injection e9 with e9 e10
          subst e9 e10
          exact ⟨vA2, vc2, rfl, d3, hown3, Lib.hid hB3⟩)
        have hYes := Lib.hid (fun h => hYes.out ⟨rfl, h⟩)
        have hNo := Lib.hid (fun (h : ¬ q.id = id) => hNo.out (fun h2 => h h2.2))
        clear hI HC1 d0
        by_cases hid : q.id = id
        · have hfin := Lib.hid (hYes.out hid)
          have hide : (q.id == id) = true := by simp [hid]
          clear hid hYes hNo
          go_wp2_with (first
            | (at_builtin; refine wpList_append_row rfl _ _ 34 rfl w.heap.size 2 i0 _ 1 8 Try.underlying34 hi0 hz0 hz1 hz2 rfl (by decide) (.slice vA (idsOf (M.take i) key).length vc) (idsOf (M.take i) key).length ((idsOf (M.take i) key).map idI) rfl ownA.out (some ⟨W1.heap.size, 0, none⟩) 1 1 [idI q.id] rfl (fun e => by cases e) rfl news.out (fun u hu => by simp at hu; subst hu; rfl) (by unfold maxLen; omega) (by omega) hsz.out ?_; intro v2 W2 own2 grow2 loc2; obtain ⟨vA2, vc2, rfl, d2, hown3, hB3⟩ := AF.out v2 W2 own2 grow2; clear own2 grow2 loc2 AF)
            | fail)
          go_roundg (Q.length - (i + 1))
          case measure => omega
          case rel => exact ⟨i + 1, vA2, vc2, (i : Int), rfl, by omega, by go_num, rfl, rfl, Lib.hid ⟨hown3.out, hfin.out, hB3.out⟩⟩
        · have hfin := Lib.hid (hNo.out hid)
          have hide : (q.id == id) = false := by simp [hid]
          clear hid hYes hNo
          go_wp2_with (first
            | (at_builtin; refine wpList_append_row rfl _ _ 34 rfl w.heap.size 2 i0 _ 1 8 Try.underlying34 hi0 hz0 hz1 hz2 rfl (by decide) (.slice vA (idsOf (M.take i) key).length vc) (idsOf (M.take i) key).length ((idsOf (M.take i) key).map idI) rfl ownA.out (some ⟨W1.heap.size, 0, none⟩) 1 1 [idI q.id] rfl (fun e => by cases e) rfl news.out (fun u hu => by simp at hu; subst hu; rfl) (by unfold maxLen; omega) (by omega) hsz.out ?_; intro v2 W2 own2 grow2 loc2; obtain ⟨vA2, vc2, rfl, d2, hown3, hB3⟩ := AF.out v2 W2 own2 grow2; clear own2 grow2 loc2 AF)
            | fail)
          go_roundg (Q.length - (i + 1))
          case measure => omega
          case rel => exact ⟨i + 1, vA2, vc2, a, rfl, by omega, by go_num, rfl, rfl, Lib.hid ⟨hown3.out, hfin.out, hB3.out⟩⟩
      · have hr1 : (r == 0) = false := by simp [hr0]
        rw [if_neg hr0] at hS
        have hfin := Lib.hid (show AtP M key id (i + 1) a from hNo.out (fun q => hr0 q.1))
        go_wp2
        go_roundg (Q.length - (i + 1))
        case measure => omega
        case rel => exact ⟨i + 1, vA, vc, a, rfl, by omega, by go_num, rfl, by rw [hS.out], Lib.hid ⟨by rw [hS.out]; exact own.out, hfin.out, hB2.out⟩⟩
    · have e : i = Q.length := by omega
      subst e
      have h1' : ((Q.length : Int) < (Q.length : Int)) = False := eq_false (by omega)
      rw [List.take_of_length_le (by omega)] at hI ⊢
      go_wp2
      go_ret2
      exact ⟨vA, vc, a, rfl, hI⟩
set_option maxHeartbeats 2000000 in
theorem entries_same (A B : Option Addr) (ca cb : Nat) (Q R : List Ent) (w : World) (lq : Q.length ≤ 1000000) (hQR : Q.map entP = R.map entP) (ha : RowIn entC 2 w A Q) (hb : RowIn entC 2 w B R) (hk : ∀ q ∈ Q, ValsIn w q.kA q.key) (hk2 : keysE w R) :
    Gives Try.prog 23 #[.slice A Q.length ca, .slice B R.length cb] w (.bool true) := by
  have hl : R.length = Q.length := by have := congrArg List.length hQR; simpa using this.symm
  have HA := Lib.hid (show ∀ j (hj : j < Q.length) W, Below w.heap.size w W → (∃ b off, A = some ⟨b, off, none⟩ ∧ W.cell? ⟨b, off + j * 2, none⟩ = some (.slice Q[j].kA Q[j].key.length Q[j].kc) ∧ W.cell? ⟨b, off + j * 2 + 1, none⟩ = some (.int .i64 Q[j].id)) from fun j hj W hB => row_ent ha hB hj)
  have HB := Lib.hid (show ∀ j (hj : j < Q.length) (hj2 : j < R.length) W, Below w.heap.size w W → (∃ b off, B = some ⟨b, off, none⟩ ∧ W.cell? ⟨b, off + j * 2, none⟩ = some (.slice R[j].kA Q[j].key.length R[j].kc) ∧ W.cell? ⟨b, off + j * 2 + 1, none⟩ = some (.int .i64 Q[j].id)) from fun j hj hj2 W hB => by
    obtain ⟨b, off, e, h1, h2⟩ := row_ent hb hB hj2
    have e1 : (Q.map entP)[j]? = (R.map entP)[j]? := by rw [hQR]
    rw [List.getElem?_map, List.getElem?_map, List.getElem?_eq_getElem hj, List.getElem?_eq_getElem hj2] at e1
    simp [entP] at e1
    exact ⟨b, off, e, by rw [e1.1]; exact h1, by rw [e1.2]; exact h2⟩)
  have HV := Lib.hid (show ∀ j (hj : j < Q.length) (hj2 : j < R.length) W, Below w.heap.size w W → Gives Try.prog 14 #[.slice Q[j].kA Q[j].key.length Q[j].kc, .slice R[j].kA Q[j].key.length R[j].kc] W (.bool true) from fun j hj hj2 W hB => by
    have e1 : (Q.map entP)[j]? = (R.map entP)[j]? := by rw [hQR]
    rw [List.getElem?_map, List.getElem?_map, List.getElem?_eq_getElem hj, List.getElem?_eq_getElem hj2] at e1
    simp [entP] at e1
    obtain ⟨k1, k2, k3⟩ := hk2 _ (List.getElem_mem hj2)
    have k0 := hk _ (List.getElem_mem hj)
    rw [← e1.1] at k1 k2 k3
    exact vals_yes _ _ _ _ _ k2 W k3 (k0.below hB) (k1.below hB))
  clear ha hb hk hk2 hQR
  rw [hl]
  go_enter Try.func23, Try.ntmps23
  go_wp2_with fail
  go_loopg [5] Q.length (fun k s5 W => ∃ (i : Nat), k = Q.length - i ∧ i ≤ Q.length ∧ s5 = .int .i64 (i : Nat) ∧ Hid (Below w.heap.size w W))
  case atStart => exact ⟨0, by omega, by omega, rfl, Lib.hid (Below.refl _ _)⟩
  case round =>
    obtain ⟨i, rfl, hi, rfl, hI⟩ := hrel
    by_cases h1 : i < Q.length
    · have h1' : (i : Int) < (Q.length : Int) := by omega
      have h2 : i < R.length := by omega
      obtain ⟨Wi, rfl⟩ : ∃ Wi : World, Wi = wr := ⟨_, rfl⟩
      have hm : ∀ y, Below w.heap.size w (more Wi y) := fun y => hI.out.trans ((more_below Wi y).mono hI.out.size)
      obtain ⟨b, off, rfl, _⟩ := HA.out i h1 Wi hI.out
      obtain ⟨b2, off2, rfl, _⟩ := HB.out i h1 h2 Wi hI.out
      have d0 : ∀ y, (more Wi y).cell? ⟨b, off + i * 2, none⟩ = some (.slice Q[i].kA Q[i].key.length Q[i].kc) := fun y => by
        obtain ⟨_, _, e, q1, q2⟩ := HA.out i h1 (more Wi y) (hm y)
        injection e with e; injection e with e1 e2; subst e1 e2; exact q1
      have d1 : ∀ y, (more Wi y).cell? ⟨b, off + i * 2 + 1, none⟩ = some (.int .i64 Q[i].id) := fun y => by
        obtain ⟨_, _, e, q1, q2⟩ := HA.out i h1 (more Wi y) (hm y)
        injection e with e; injection e with e1 e2; subst e1 e2; exact q2
      have d2 : ∀ y, (more Wi y).cell? ⟨b2, off2 + i * 2, none⟩ = some (.slice R[i].kA Q[i].key.length R[i].kc) := fun y => by
        obtain ⟨_, _, e, q1, q2⟩ := HB.out i h1 h2 (more Wi y) (hm y)
        injection e with e; injection e with e1 e2; subst e1 e2; exact q1
      have d3 : ∀ y, (more Wi y).cell? ⟨b2, off2 + i * 2 + 1, none⟩ = some (.int .i64 Q[i].id) := fun y => by
        obtain ⟨_, _, e, q1, q2⟩ := HB.out i h1 h2 (more Wi y) (hm y)
        injection e with e; injection e with e1 e2; subst e1 e2; exact q2
      have CV := Lib.hid (fun y => HV.out i h1 h2 (more Wi y) (hm y))
      replace hm := Lib.hid hm
      generalize Q[i] = q at *
      generalize R[i] = r at *
      go_upto_region 6 with fail
      refine wp_region_more (by kernel_rfl) (by kernel_rfl) ?_
      repeat (go_big_quiet_step (((with_reducible exact (CV.out _).at_))))
      refine wpQuiet_nil ?_
      rintro _ ⟨z, rfl⟩
      go_wp2
      go_roundg (Q.length - (i + 1))
      case measure => omega
      case rel => exact ⟨i + 1, rfl, by omega, by go_num, Lib.hid (hm.out z)⟩
    · have e : i = Q.length := by omega
      subst e
      have h1' : ((Q.length : Int) < (Q.length : Int)) = False := eq_false (by omega)
      go_wp2
      go_ret
      exact ⟨rfl, more_of_below hI.out⟩
end Go.Proofs.Ytijegkiapbmekaa

/- HashPlays: an index, and the statement's own row of what it is to hold. -/
set_option maxRecDepth 100000
set_option linter.unusedVariables false
set_option linter.unusedSimpArgs false
namespace Go.Proofs.Ytijegkiapbmekaa
open Go.RowKit
/-- an index that holds I, beside a row Q of the statement's own and one more block of it -/
structure MI (w W : World) (p : Nat) (u : Bool) (n i : Nat) (bx : Nat) (bc : Array Value) (mA : Option Addr) (mc : Nat) (Q : List Ent) (I : List En) : Prop where
  st : StI w W p u n i (fun g => g = bx ∨ (Value.slice mA Q.length mc).ownBlock = some g) I
  own : W.ownsRow w.heap.size 56 2 (.slice mA Q.length mc) Q.length (rowC entC Q)
  bl : w.heap.size ≤ bx
  box : Blk W bx bc 51
section
variable {w W W' : World} {p : Nat} {u : Bool} {n i : Nat} {bx : Nat} {bc : Array Value} {mA mA' : Option Addr} {mc mc' : Nat} {Q Q' : List Ent} {I I' : List En} {key : List Val} {id : Int}
theorem MI.ne (h : MI w W p u n i bx bc mA mc Q I) : (Value.slice mA Q.length mc).ownBlock ≠ some bx := fun e => by
  obtain ⟨cs, f, q⟩ := own_tag h.own e
  exact tag_ne q h.box (by decide) rfl
theorem MI.below (h : MI w W p u n i bx bc mA mc Q I) (hb : Below W.heap.size W W') : MI w W' p u n i bx bc mA mc Q I :=
  ⟨h.st.below hb, own_same h.own (fun g hg => hb.block g (own_lt9 h.own g hg)), h.bl, h.box.below hb h.box.lt⟩
theorem MI.congr (h : MI w W p u n i bx bc mA mc Q I) (e : ∀ x, x ∈ I' ↔ x ∈ I) : MI w W p u n i bx bc mA mc Q I' := ⟨h.st.congr e, h.own, h.bl, h.box⟩
/-- the row is written, or laid anew -/
theorem MI.wrote (h : MI w W p u n i bx bc mA mc Q I) (hg : W.grownBy W' (Value.slice mA Q.length mc).ownBlock) (own : W'.ownsRow w.heap.size 56 2 (.slice mA' Q'.length mc') Q'.length (rowC entC Q'))
    (hl : ∀ g, (Value.slice mA' Q'.length mc').ownBlock = some g → (Value.slice mA Q.length mc).ownBlock = some g ∨ W.heap.size ≤ g) : MI w W' p u n i bx bc mA' mc' Q' I := by
  have hbx : W'.heap[bx]? = W.heap[bx]? := hg.block bx h.box.lt (fun e => h.ne e.symm)
  refine ⟨h.st.wrote ⟨hg.os, hg.tape, hg.output, hg.size, fun k hk hn => hg.block k hk (fun e => hn (.inr e.symm))⟩ ?_ ?_, own, h.bl, hbx.trans h.box⟩
  · rintro g (rfl | e)
    · exact h.bl
    · exact own_ge h.own g e
  · rintro g (rfl | e)
    · exact ⟨Nat.lt_of_lt_of_le h.box.lt hg.size, .inl (.inl rfl)⟩
    · refine ⟨own_lt9 own g e, ?_⟩
      rcases hl g e with q | q
      · exact .inl (.inr q)
      · exact .inr q
theorem MI.step (h : MI w W p u n i bx bc mA mc Q I) {n' i' : Nat} (st : StI w W' p u n' i' (fun g => g = bx ∨ (Value.slice mA Q.length mc).ownBlock = some g) I') (hk : ∀ g, (g = bx ∨ (Value.slice mA Q.length mc).ownBlock = some g) → W'.heap[g]? = W.heap[g]?) : MI w W' p u n' i' bx bc mA mc Q I' :=
  ⟨st, own_same h.own (fun g hg => hk g (.inr hg)), h.bl, (hk bx (.inl rfl)).trans h.box⟩
theorem MI.ins_old (h : MI w W p u n i bx bc mA mc Q I) (hi : i ≤ 100) (hn : n ≤ 100) (A : Option Addr) (ca : Nat) (hok : allOk key) (lk : key.length ≤ 1000) (hA : A = none → ca = 0 ∧ key.length = 0) (ha : ValsIn W A key) (id : Int) (er : Int)
    (her : ((key, id) ∈ I ∧ er = 72) ∨ ((key, id) ∉ I ∧ u = true ∧ (∃ j, (key, j) ∈ I) ∧ er = 80)) :
    Calls Try.prog 9 #[.pointer (some ⟨p, 0, none⟩), .slice A key.length ca, .int .i64 id] W fun e w' => e = .returned (.int .i64 er) ∧ Hid (MI w w' p u n (i + 1) bx bc mA mc Q I) :=
  (h.st.ins_old hi hn A ca hok lk hA ha id er her).mono (fun e w' ⟨h1, h2⟩ => ⟨h1, Lib.hid (h.step h2.out.1 h2.out.2)⟩)
theorem MI.ins_new (h : MI w W p u n i bx bc mA mc Q I) (hi : i ≤ 100) (hn : n ≤ 100) (A : Option Addr) (ca : Nat) (hok : allOk key) (lk : key.length ≤ 1000) (hA : A = none → ca = 0 ∧ key.length = 0) (ha : ValsIn W A key) (id : Int)
    (hno : (key, id) ∉ I) (hu : u = true → ∀ j, (key, j) ∉ I) :
    Calls Try.prog 9 #[.pointer (some ⟨p, 0, none⟩), .slice A key.length ca, .int .i64 id] W fun e w' => e = .returned (.int .i64 0) ∧ Hid (MI w w' p u (n + 1) (i + 1) bx bc mA mc Q (I ++ [(key, id)])) :=
  (h.st.ins_new (I' := I ++ [(key, id)]) hi hn A ca hok lk hA ha id hno hu (fun e => by simp)).mono (fun e w' ⟨h1, h2⟩ => ⟨h1, Lib.hid (h.step h2.out.1 h2.out.2)⟩)
theorem MI.era_no (h : MI w W p u n i bx bc mA mc Q I) (hi : i ≤ 100) (hn : n ≤ 100) (A : Option Addr) (ca : Nat) (hok : allOk key) (lk : key.length ≤ 1000) (ha0 : ValsIn w A key) (id : Int) (hno : (key, id) ∉ I) :
    Calls Try.prog 18 #[.pointer (some ⟨p, 0, none⟩), .slice A key.length ca, .int .i64 id] W fun e w' => e = .returned (.int .i64 71) ∧ Hid (MI w w' p u n (i + 1) bx bc mA mc Q I) :=
  (h.st.era_no hi hn A ca hok lk ha0 id hno).mono (fun e w' ⟨h1, h2⟩ => ⟨h1, Lib.hid (h.step h2.out.1 h2.out.2)⟩)
theorem MI.era_yes (h : MI w W p u n i bx bc mA mc Q I) (hi : i ≤ 100) (hn : n ≤ 100) (hn0 : 0 < n) (A : Option Addr) (ca : Nat) (hok : allOk key) (lk : key.length ≤ 1000) (ha0 : ValsIn w A key) (id : Int) (hyes : (key, id) ∈ I) (hI' : ∀ e, e ∈ I' ↔ e ∈ I ∧ e ≠ (key, id)) :
    Calls Try.prog 18 #[.pointer (some ⟨p, 0, none⟩), .slice A key.length ca, .int .i64 id] W fun e w' => e = .returned (.int .i64 0) ∧ Hid (MI w w' p u (n - 1) (i + 1) bx bc mA mc Q I') :=
  (h.st.era_yes hi hn hn0 A ca hok lk ha0 id hyes hI').mono (fun e w' ⟨h1, h2⟩ => ⟨h1, Lib.hid (h.step h2.out.1 h2.out.2)⟩)
end
theorem entC_one (q : Ent) : ∀ u ∈ entC q, u.oneCell' = true := by
  intro u hu; simp [entC] at hu; rcases hu with rfl | rfl <;> rfl
theorem insAt_map9 {α β : Type} (f : α → β) (M : List α) (k : Nat) (x : α) : (insAt M k x).map f = insAt (M.map f) k (f x) := by
  unfold insAt; simp [List.map_take, List.map_drop]
theorem delAt_map9 {α β : Type} (f : α → β) (M : List α) (k : Nat) : (delAt M k).map f = delAt (M.map f) k := by
  unfold delAt; simp [List.map_take, List.map_drop]
end Go.Proofs.Ytijegkiapbmekaa

/- Calls of an index, handed in: opened. -/
set_option maxRecDepth 100000
set_option linter.unusedVariables false
set_option linter.unusedSimpArgs false
namespace Go.Proofs.Ytijegkiapbmekaa
open Go.RowKit Go.Joins Go.ChangeShapes Go.WideShapes Go.Deep
/-- a call of an index -/
structure Stp where
  what : Int
  A : Option Addr
  cap : Nat
  vals : List Val
  id : Int
def stpC (s : Stp) : List Value := [.int .i64 s.what, .slice s.A s.vals.length s.cap, .int .i64 s.id]
theorem stpC_len (s : Stp) : (stpC s).length = 3 := rfl
structure Stp.ok (w : World) (s : Stp) : Prop where
  len : s.vals.length ≤ s.cap
  cap : s.cap ≤ 9223372036854775807
  nil : s.A = none → s.cap = 0
  ok : allOk s.vals
  vals : ValsIn w s.A s.vals
def IsStps (w : World) (v : Value) : Prop := IsRow stpC 3 (Stp.ok w) w v
section
variable {H : Type} {enc : TypeId × Value → H} {w : World} {base : Nat} {spare : Nat → Bool} {held : Bool} {r : Reach} {b0 : Nat} {v : Value} {d : DataW H} {p : List MemPlace}
theorem cells_step10 : Try.prog.cellsOf 51 = 3 := by kernel_rfl
theorem cells_vals10 : Try.prog.cellsOf 33 = 1 := by kernel_rfl
theorem read_step10 {n : Nat} {cs : List Value} {x : DataW H × List MemPlace} (h : DataW.trod enc Try.prog w base spare held n 51 cs = some x) (hl : cs.length = 3) :
    ∃ s : Stp, cs = stpC s ∧ Stp.ok w s := by
  obtain ⟨y0, y1, y2, m, _, _, h0, h1, h2⟩ := trod_struct3 Try.underlying51 h
  match cs, hl with
  | [c0, c1, c2], _ =>
    rw [cells_int] at h0
    rw [cells_vals10] at h1
    rw [cells_int64] at h2
    obtain ⟨k, e0, w0⟩ := read_int Try.underlying3 (show DataW.trod enc Try.prog w base spare held m 3 [c0] = some y0 from h0) rfl
    obtain ⟨A, cap, l, e3, q1, q2, q3, q4, q5⟩ := read_vals (show DataW.trod enc Try.prog w base spare held m 33 [c1] = some y1 from h1) rfl
    obtain ⟨i, e1, w1⟩ := read_int Try.underlying2 (show DataW.trod enc Try.prog w base spare held m 2 [c2] = some y2 from h2) rfl
    simp at e0 e1 e3
    subst e0 e1 e3
    exact ⟨⟨k, A, cap, l, i⟩, rfl, q1, q2, q3, q4, q5⟩
theorem is_rialtolaw10_Steps (hv : Value.okWide Try.prog w r b0 49 v) (h : DataW.Trod enc Try.prog w base spare held 49 v d p) : IsStps w v :=
  row_open (by decide) stpC_len Try.underlying49 cells_step10 (fun n cs x h hl => read_step10 h hl) hv h
end
end Go.Proofs.Ytijegkiapbmekaa
