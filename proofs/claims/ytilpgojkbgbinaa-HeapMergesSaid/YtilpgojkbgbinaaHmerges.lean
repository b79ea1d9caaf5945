/- HeapMerges: rows that stand in order make one that does; of others all are there. -/
import Derived.Test.YtilpgojkbgbinaaMrg
import Derived.Test.YtilpgojkbgbinaaOrder8
import Derived.Test.YtilpgojkbgbinaaOpenB
import Derived.Deep.OwnRows
set_option maxRecDepth 100000
set_option linter.unusedVariables false
set_option linter.unusedSimpArgs false
namespace Go.Proofs.Ytilpgojkbgbinaa
open Go.RowKit
attribute [local go_sem] run_frombits run_tobits more_more more_drew more_drewN more_size more_cell more_frozen run_store_float lt_c1 le_c1 lt_s1 le_s1 lt_c2 le_c2 lt_s2 le_s2 lt_c3 le_c3 lt_s3 le_s3 lt_c4 le_c4 lt_s4 le_s4 lt_c5 le_c5 lt_s5 le_s5 lt_c6 le_c6 lt_s6 le_s6 lt_c7 le_c7 lt_s7 le_s7 lt_c8 le_c8 lt_s8 le_s8 lt_c9 le_c9 lt_s9 le_s9 lt_c10 le_c10 lt_s10 le_s10 lt_c11 le_c11 lt_s11 le_s11 lt_c12 le_c12 lt_s12 le_s12 le_c0
/-- the Items of a row of numbers, not yet numbered; numbered from a number on -/
def items0 (l : List Int) : List Itm := l.map fun x => ⟨x.tdiv 8, 0⟩
theorem items0_length (l : List Int) : (items0 l).length = l.length := by simp [items0]
theorem items0_take (l : List Int) (k : Nat) (h : k < l.length) : items0 (l.take (k + 1)) = items0 (l.take k) ++ [⟨l[k].tdiv 8, 0⟩] := by
  unfold items0
  rw [List.take_succ_eq_append_getElem h, List.map_append]
  rfl
def num8 (b : Nat) (l : List Itm) : List Itm := l.mapIdx fun k x => ⟨x.n, ((b + k : Nat) : Int)⟩
theorem num8_length (b : Nat) (l : List Itm) : (num8 b l).length = l.length := by simp [num8]
theorem num8_at (b : Nat) (l : List Itm) (k : Nat) (h : k < (num8 b l).length) : (num8 b l)[k] = ⟨(l[k]'(by rw [num8_length] at h; exact h)).n, ((b + k : Nat) : Int)⟩ := by simp [num8]
/-- the first ones numbered, the others not yet -/
def part8 (b k : Nat) (l : List Itm) : List Itm := l.mapIdx fun j x => if j < k then ⟨x.n, ((b + j : Nat) : Int)⟩ else x
theorem part8_zero (b : Nat) (l : List Itm) : part8 b 0 l = l := by
  apply List.ext_getElem (by simp [part8])
  intro j h1 h2
  simp [part8]
theorem part8_all (b : Nat) (l : List Itm) : part8 b l.length l = num8 b l := by
  apply List.ext_getElem (by simp [part8, num8])
  intro j h1 h2
  have : j < l.length := by simpa [part8] using h1
  simp [part8, num8, this]
theorem part8_length (b k : Nat) (l : List Itm) : (part8 b k l).length = l.length := by simp [part8]
theorem part8_step (b k : Nat) (l : List Itm) (h : k < l.length) : (part8 b k l).set k ⟨l[k].n, ((b + k : Nat) : Int)⟩ = part8 b (k + 1) l := by
  apply List.ext_getElem (by simp [part8])
  intro j h1 h2
  have hj : j < l.length := by simpa [part8] using h2
  rw [List.getElem_set]
  simp only [part8, List.getElem_mapIdx]
  by_cases hk : k = j
  · subst hk; rw [if_pos rfl, if_pos (by omega)]
  · rw [if_neg hk]
    by_cases hj2 : j < k
    · rw [if_pos hj2, if_pos (by omega)]
    · rw [if_neg hj2, if_neg (by omega)]
theorem part8_at (b k : Nat) (l : List Itm) (h : k < l.length) : (part8 b k l)[k]'(by rw [part8_length]; exact h) = l[k] := by simp [part8]
theorem num8_ids (b : Nat) (l : List Itm) : (num8 b l).Pairwise (fun x y => x.id < y.id) := by
  rw [List.pairwise_iff_getElem]
  intro i j hi hj hij
  rw [num8_at, num8_at]
  simp only
  omega
theorem num8_NI (b : Nat) (l : List Itm) (h : l.Pairwise (fun x y => x.n ≤ y.n)) : Sorted ltNI (num8 b l) := by
  unfold Sorted
  rw [List.pairwise_iff_getElem]
  intro i j hi hj hij
  rw [num8_at, num8_at, ltNI_iff]
  have hi' : i < l.length := by rw [num8_length] at hi; exact hi
  have hj' : j < l.length := by rw [num8_length] at hj; exact hj
  have := List.pairwise_iff_getElem.1 h i j hi' hj' hij
  simp only
  omega
theorem info_sl8 : (Try.prog.info? 74).map (fun i => (i.zero, i.size, i.bytes)) = some (some (.slice none 0 0), 1, 24) := by kernel_rfl
/-- rows made so far: numbered through, one behind the other -/
def Rising (Q : List (List Itm)) : Prop := ∀ k (h : k < Q.flatten.length), Q.flatten[k].id = (k : Int)
theorem rising_nil : Rising [] := fun k h => by simp at h
theorem rising_step {Q : List (List Itm)} (h : Rising Q) (l : List Itm) : Rising (Q ++ [num8 Q.flatten.length l]) := by
  intro k hk
  have e : (Q ++ [num8 Q.flatten.length l]).flatten = Q.flatten ++ num8 Q.flatten.length l := by simp
  have hk' : k < (Q.flatten ++ num8 Q.flatten.length l).length := by rw [← e]; exact hk
  have : (Q ++ [num8 Q.flatten.length l]).flatten[k] = (Q.flatten ++ num8 Q.flatten.length l)[k] := List.getElem_of_eq e hk
  rw [this, List.getElem_append]
  split
  · exact h k _
  · rename_i hq
    rw [num8_at]
    simp only
    omega
theorem rising_ids {Q : List (List Itm)} (h : Rising Q) : Q.flatten.Pairwise (fun a b => a.id < b.id) := by
  rw [List.pairwise_iff_getElem]
  intro i j hi hj hij
  rw [h i hi, h j hj]
  omega
theorem rising_acc {Q : List (List Itm)} (h : Rising Q) : ∀ i j (hi : i < Q.length) (hj : j < Q.length), i < j → ∀ a ∈ Q[i], ∀ b ∈ Q[j], a.id < b.id := by
  have := rising_ids h
  rw [List.pairwise_flatten] at this
  intro i j hi hj hij
  exact List.pairwise_iff_getElem.1 this.2 i j hi hj hij
theorem RowIn.grown {α : Type} {c : α → List Value} {s : Nat} {w w' : World} {A : Option Addr} {l : List α} {r : Option Nat} (h : RowIn c s w A l) (hg : w.grownBy w' r) (hne : ∀ a, A = some a → some a.block ≠ r) : RowIn c s w' A l := fun j hj => by
  obtain ⟨b, off, e, hb, hc⟩ := h j hj
  refine ⟨b, off, e, Nat.lt_of_lt_of_le hb hg.size, fun i hi t u hu => ?_⟩
  exact (World.cell?_of_block (w := w) (w' := w') (a := ⟨b, off + i * s + t, none⟩) (hg.block b hb (hne _ e))).trans (hc i hi t u hu)
/-- a row made before lies well: beside the two rows that still grow -/
def Lies (w : World) (v5 v6 : Value) (r : RwI) : Prop := RowIn cItm 2 w r.A r.l ∧ ∀ a, r.A = some a → a.block < w.heap.size ∧ some a.block ≠ v5.ownBlock ∧ some a.block ≠ v6.ownBlock
theorem Lies.below {w w' : World} {v5 v6 : Value} {r : RwI} (h : Lies w v5 v6 r) (hb : Below w.heap.size w w') : Lies w' v5 v6 r :=
  ⟨h.1.below hb, fun a e => ⟨Nat.lt_of_lt_of_le (h.2 a e).1 hb.size, (h.2 a e).2⟩⟩
theorem Lies.first {w w' : World} {v5 v6 v5' : Value} {r : RwI} (h : Lies w v5 v6 r) (hg : w.grownBy w' v5.ownBlock) (hat : v5'.ownBlock = v5.ownBlock ∨ ∃ g, v5'.ownBlock = some g ∧ w.heap.size ≤ g) : Lies w' v5' v6 r :=
  ⟨h.1.grown hg fun a e => (h.2 a e).2.1, fun a e => ⟨Nat.lt_of_lt_of_le (h.2 a e).1 hg.size, by
    rcases hat with q | ⟨g, q, hq⟩
    · rw [q]; exact (h.2 a e).2.1
    · rw [q]; intro e2; injection e2 with e2; have := (h.2 a e).1; omega, (h.2 a e).2.2⟩⟩
theorem Lies.second {w w' : World} {v5 v6 v6' : Value} {r : RwI} (h : Lies w v5 v6 r) (hg : w.grownBy w' v6.ownBlock) (hat : v6'.ownBlock = v6.ownBlock ∨ ∃ g, v6'.ownBlock = some g ∧ w.heap.size ≤ g) : Lies w' v5 v6' r :=
  ⟨h.1.grown hg fun a e => (h.2 a e).2.2, fun a e => ⟨Nat.lt_of_lt_of_le (h.2 a e).1 hg.size, (h.2 a e).2.1, by
    rcases hat with q | ⟨g, q, hq⟩
    · rw [q]; exact (h.2 a e).2.2
    · rw [q]; intro e2; injection e2 with e2; have := (h.2 a e).1; omega⟩⟩
/-- what the loop over the rows has made -/
structure Made (messy : Bool) (w0 : World) (b i n6 : Nat) (v5 v6 : Value) (Q : List RwI) : Prop where
  len : Q.length = i
  tot : (Q.map (·.l)).flatten.length = n6
  rise : Rising (Q.map (·.l))
  few : ∀ r ∈ Q, r.l.length ≤ 40
  ord : messy = false → ∀ r ∈ Q.map (·.l), Sorted ltNI r
  own5 : w0.ownsRow b 74 1 v5 i (rowC cRw Q)
  own6 : w0.ownsRow b 80 2 v6 n6 (rowC cItm (Q.map (·.l)).flatten)
  apart : ∀ g, v5.ownBlock = some g → v6.ownBlock ≠ some g
  lies : ∀ r ∈ Q, Lies w0 v5 v6 r
theorem Made.below {messy : Bool} {w w' : World} {b i n6 : Nat} {v5 v6 : Value} {Q : List RwI} (h : Made messy w b i n6 v5 v6 Q) (hb : Below w.heap.size w w') : Made messy w' b i n6 v5 v6 Q :=
  ⟨h.len, h.tot, h.rise, h.few, h.ord, own_below h.own5 hb, own_below h.own6 hb, h.apart, fun r hr => (h.lies r hr).below hb⟩
theorem made_nil (messy : Bool) (w : World) (b : Nat) : Made messy w b 0 0 (.slice none 0 0) (.slice none 0 0) [] :=
  ⟨rfl, rfl, rising_nil, (fun r h => by cases h), (fun _ r h => by cases h), World.ownsRow_nil _ _ _ _, World.ownsRow_nil _ _ _ _, (fun g e => by simp [Value.ownBlock] at e), (fun r h => by cases h)⟩
def InOrd8 (messy : Bool) (l : List Itm) : Prop := messy = false → l.Pairwise (fun x y => x.n ≤ y.n)
/-- one row more -/
theorem Made.step {messy : Bool} {w w5 w6 : World} {b i n6 : Nat} {v5 v6 v5' v6' : Value} {Q : List RwI} {A9 : Option Addr} {c9 : Nat} {l : List Itm} (h : Made messy w b i n6 v5 v6 Q) (hr : Lies w v5 v6 ⟨A9, c9, num8 n6 l⟩) (hl : l.length ≤ 40) (hs : InOrd8 messy l)
    (o5 : w5.ownsRow b 74 1 v5' (i + 1) (rowC cRw Q ++ [.slice A9 l.length c9])) (g5 : w.grownBy w5 v5.ownBlock) (t5 : v5'.ownBlock = v5.ownBlock ∨ ∃ g, v5'.ownBlock = some g ∧ w.heap.size ≤ g)
    (o6 : w6.ownsRow b 80 2 v6' (n6 + l.length) (rowC cItm (Q.map (·.l)).flatten ++ rowC cItm (num8 n6 l))) (g6 : w5.grownBy w6 v6.ownBlock) (t6 : v6'.ownBlock = v6.ownBlock ∨ ∃ g, v6'.ownBlock = some g ∧ w5.heap.size ≤ g) :
    Made messy w6 b (i + 1) (n6 + l.length) v5' v6' (Q ++ [⟨A9, c9, num8 n6 l⟩]) := by
  have h6lt := own_lt h.own6
  have h5'lt := own_lt o5
  have ap1 : ∀ g, v5'.ownBlock = some g → v6.ownBlock ≠ some g := fun g e e2 => by
    rcases t5 with q | ⟨g', q, hq⟩
    · exact h.apart g (q ▸ e) e2
    · rw [q] at e; injection e with e; have := h6lt g e2; omega
  refine ⟨?_, ?_, ?_, ?_, ?_, ?_, ?_, ?_, ?_⟩
  · rw [List.length_append, h.len]; rfl
  · rw [List.map_append, List.flatten_append, List.length_append, h.tot]; simp [num8_length]
  · have := rising_step h.rise l
    rw [h.tot] at this
    rwa [List.map_append]
  · intro r hr
    rcases List.mem_append.1 hr with q | q
    · exact h.few r q
    · rw [List.mem_singleton] at q; subst q; show (num8 n6 l).length ≤ 40; rw [num8_length]; exact hl
  · intro hm r hr
    rw [List.map_append] at hr
    rcases List.mem_append.1 hr with q | q
    · exact h.ord hm r q
    · simp only [List.map_cons, List.map_nil, List.mem_singleton] at q; subst q; exact num8_NI n6 l (hs hm)
  · have e : rowC cRw (Q ++ [⟨A9, c9, num8 n6 l⟩]) = rowC cRw Q ++ [.slice A9 l.length c9] := by rw [rowC_append, rowC_single]; simp [cRw, num8_length]
    rw [e]
    exact own_kept' o5 fun g hg => g6.block g (h5'lt g hg) (fun e2 => ap1 g hg e2.symm)
  · rw [List.map_append, List.flatten_append, rowC_append]
    simpa using o6
  · intro g e e2
    rcases t6 with q | ⟨g', q, hq⟩
    · exact ap1 g e (q ▸ e2)
    · rw [q] at e2; injection e2 with e2; have := h5'lt g e; omega
  · intro r hr'
    rcases List.mem_append.1 hr' with q | q
    · exact ((h.lies r q).first g5 t5).second g6 t6
    · rw [List.mem_singleton] at q; subst q; exact (hr.first g5 t5).second g6 t6
/-- which numbers have been told -/
def UsedM (Mv : List Itm) (i : Nat) (U : List Bool) : Prop := ∀ j : Nat, U[j]? = some true ↔ ∃ q x, q < i ∧ Mv[q]? = some x ∧ x.id = (j : Int)
theorem usedM_none (Mv : List Itm) (N : Nat) : UsedM Mv 0 (List.replicate N false) := fun j => by
  rw [List.getElem?_replicate]
  constructor
  · intro h; split at h <;> cases h
  · rintro ⟨q, x, hq, _⟩; omega
theorem usedM_next {allL Mv : List Itm} {U : List Bool} {i : Nat} (hp : Mv.Perm allL) (hid : ∀ k (h : k < allL.length), allL[k].id = (k : Int)) (hi : i < Mv.length) (hU : UsedM Mv i U) (hUl : U.length = allL.length) :
    ∃ p : Nat, ∃ hpl : p < allL.length, Mv[i]? = some allL[p] ∧ U[p]? = some false ∧ UsedM Mv (i + 1) (U.set p true) := by
  obtain ⟨p, hpl, e⟩ := List.getElem_of_mem (hp.mem_iff.1 (List.getElem_mem hi))
  have hpid : Mv[i].id = (p : Int) := by rw [← e]; exact hid p hpl
  have hnd : Mv.Pairwise (fun a b => a.id ≠ b.id) := by
    refine (hp.pairwise_iff (fun {x y} h => Ne.symm h)).2 ?_
    rw [List.pairwise_iff_getElem]
    intro a b ha hb hab
    rw [hid a ha, hid b hb]
    omega
  have hpU : p < U.length := by omega
  have hpf : U[p]? = some false := by
    rw [List.getElem?_eq_getElem hpU]
    cases h : U[p]
    · rfl
    · exfalso
      obtain ⟨q, x, hq, hx, hxi⟩ := (hU p).1 (by rw [List.getElem?_eq_getElem hpU, h])
      obtain ⟨hq2, rfl⟩ := List.getElem?_eq_some_iff.1 hx
      exact List.pairwise_iff_getElem.1 hnd q i hq2 hi hq (by rw [hxi, hpid])
  refine ⟨p, hpl, by rw [List.getElem?_eq_getElem hi, e], hpf, fun j => ?_⟩
  rw [List.getElem?_set]
  by_cases hpj : p = j
  · subst hpj
    rw [if_pos rfl, if_pos hpU]
    exact ⟨fun _ => ⟨i, Mv[i], by omega, List.getElem?_eq_getElem hi, hpid⟩, fun _ => rfl⟩
  · rw [if_neg hpj, hU j]
    constructor
    · rintro ⟨q, x, hq, hx, hxa⟩; exact ⟨q, x, by omega, hx, hxa⟩
    · rintro ⟨q, x, hq, hx, hxa⟩
      rcases Nat.lt_or_ge q i with h | h
      · exact ⟨q, x, h, hx, hxa⟩
      · have : q = i := by omega
        subst this
        rw [List.getElem?_eq_getElem hi] at hx
        injection hx with hx
        rw [← hx, hpid] at hxa
        omega
theorem info_bool8 : (Try.prog.info? 4).map (fun i => (i.zero, i.size, i.bytes)) = some (some (.bool false), 1, 1) := by kernel_rfl
theorem made_bools8 (N : Nat) : madeCells #[.bool false] N = ((List.replicate N false).map Value.bool).toArray := by
  unfold madeCells
  apply Array.ext_getElem?
  intro j
  simp [List.getElem?_replicate]
  rcases Nat.lt_or_ge j N with h | h
  · simp [h, Nat.mod_one]
  · simp [Nat.not_lt.2 h]
theorem row_itm {w2 W : World} {A : Option Addr} {l : List Itm} {j : Nat} {x : Itm} (h : RowIn cItm 2 w2 A l) (hB : Below w2.heap.size w2 W) (hs : l[j]? = some x) :
    ∃ b off, A = some ⟨b, off, none⟩ ∧ ∀ y, (more W y).cell? ⟨b, off + j * 2, none⟩ = some (.int .i64 x.n) ∧ (more W y).cell? ⟨b, off + j * 2 + 1, none⟩ = some (.int .i64 x.id) := by
  obtain ⟨hj, rfl⟩ := List.getElem?_eq_some_iff.1 hs
  obtain ⟨b, off, e, hb, hc⟩ := h j hj
  refine ⟨b, off, e, fun y => ⟨?_, ?_⟩⟩
  · exact ((below_more hB y hB.size).cell (p := ⟨b, off + j * 2 + 0, none⟩) hb).trans (hc j hj 0 _ rfl)
  · exact ((below_more hB y hB.size).cell (p := ⟨b, off + j * 2 + 1, none⟩) hb).trans (hc j hj 1 _ rfl)
set_option maxHeartbeats 4000000 in
theorem walk_HeapMerges (messy : Bool) (A : Option Addr) (ca : Nat) (Ls : List RwB) (w : World) (hLs : ∀ r ∈ Ls, r.ok w) (la : Ls.length ≤ 9223372036854775807) (ha : RowIn cRwB 1 w A Ls) :
    Calls Try.prog 11 #[.slice A Ls.length ca, .bool messy] w fun e w' => e = .returned (.bool true) ∧ ∃ x, w' = more w x := by
  rcases Nat.lt_or_ge 12 Ls.length with h12 | h12
  · have h1 : (12 : Int) < (Ls.length : Int) := by omega
    clear hLs
    go_enter Try.func11, Try.ntmps11
    go_wp2_with fail
    refine (known8 _).mono' ?_; intro x
    go_wp2
    go_ret
    exact ⟨rfl, (more_of_below (by repeat (first | (with_reducible exact Below.refl _ _) | (with_reducible refine Below.drew ?_) | (with_reducible refine Below.alloc ?_ (by simp [more_size]; try omega) _) | (with_reducible refine Below.setCell ?_ (by simp [more_size]; try omega) _) | (with_reducible refine below_more ?_ _ (by simp [more_size]; try omega)))))⟩
  · have h1 : (Ls.length : Int) ≤ 12 := by omega
    have hcell := Lib.hid (fun (i : Nat) (hi : i < Ls.length) => (by
      obtain ⟨b1, off, e, hb1, hc⟩ := ha i hi
      have hok := hLs _ (List.getElem_mem hi)
      refine ⟨b1, off, e, fun W hB => ?_, fun k hk => ?_, hok.2.2.2.1, hok.1⟩
      · have := (hB.cell (p := ⟨b1, off + i * 1 + 0, none⟩) hb1).trans (hc i hi 0 _ rfl)
        rwa [Nat.add_zero, Nat.mul_one] at this
      · obtain ⟨b2, o2, e2, hb2, hc2⟩ := hok.2.2.2.2 k hk
        refine ⟨b2, o2, e2, fun W hB => ?_⟩
        have := (hB.cell (p := ⟨b2, o2 + k * 1 + 0, none⟩) hb2).trans (hc2 k hk 0 _ rfl)
        rwa [Nat.add_zero, Nat.mul_one] at this :
      ∃ b1 off, A = some ⟨b1, off, none⟩ ∧ (∀ W, Below w.heap.size w W → W.cell? ⟨b1, off + i, none⟩ = some (.slice Ls[i].A Ls[i].l.length Ls[i].cap)) ∧
        (∀ k (hk : k < Ls[i].l.length), ∃ b2 o2, Ls[i].A = some ⟨b2, o2, none⟩ ∧ ∀ W, Below w.heap.size w W → W.cell? ⟨b2, o2 + k, none⟩ = some (.int .i8 (Ls[i].l[k]))) ∧ (∀ n ∈ Ls[i].l, -128 ≤ n ∧ n ≤ 127) ∧ Ls[i].l.length ≤ Ls[i].cap))
    clear ha hLs la
    go_enter Try.func11, Try.ntmps11
    go_wp2_with fail
    refine (known8 _).mono' ?_; intro x
    have hB1 := Lib.hid (more_below w x)
    go_wp2
    go_loopw [5, 6, 7, 8, 9, 10, 11] (fun t5 t6 t7 t8 _ _ _ wr => ∃ (i n6 : Nat) (A5 : Option Addr) (c5 : Nat) (A6 : Option Addr) (c6 : Nat) (Q : List RwI), t8 = .int .i64 i ∧ t5 = .slice A5 i c5 ∧ t6 = .slice A6 n6 c6 ∧ t7 = .int .i64 n6 ∧ i ≤ Ls.length ∧ n6 ≤ 40 * i ∧ Hid (Made messy wr w.heap.size i n6 (.slice A5 i c5) (.slice A6 n6 c6) Q) ∧ Hid (Below w.heap.size w wr)) (fun _ _ _ t _ _ _ _ => Ls.length - (intOf t).toNat)
    case atStart => exact ⟨0, 0, none, 0, none, 0, [], rfl, rfl, rfl, rfl, Nat.zero_le _, by omega, Lib.hid (made_nil _ _ _), hB1⟩
    case round =>
      obtain ⟨i, n6, A5, c5, A6, c6, Q, rfl, rfl, rfl, rfl, hi, hn6, hMade, hB⟩ := hrel
      clear hB1
      rcases Nat.lt_or_ge i Ls.length with hil | hil
      · have hil' : (i : Int) < (Ls.length : Int) := by omega
        obtain ⟨b1, off, rfl, hc1, hcx, hbd, hmc⟩ := hcell.out i hil
        have y0 := hc1 wr hB.out
        generalize Ls[i] = r at *
        obtain ⟨rA, rc, rl⟩ := r
        dsimp only at y0 hcx hbd hmc hc1
        replace hcx := Lib.hid hcx
        replace hbd := Lib.hid hbd
        replace hc1 := Lib.hid hc1
        rcases Nat.lt_or_ge 40 rl.length with h40 | h40
        · have h41 : (40 : Int) < (rl.length : Int) := by omega
          go_wp2
          go_ret
          exact ⟨rfl, more_of_below hB.out⟩
        · have h41 : (rl.length : Int) ≤ 40 := by omega
          obtain ⟨W0, hW0⟩ : ∃ W0, W0 = wr := ⟨_, rfl⟩
          subst hW0
          obtain ⟨B0, hB0⟩ : ∃ B0, B0 = W0.heap.size := ⟨_, rfl⟩
          replace hB0 := Lib.hid hB0
          have own0 := Lib.hid (World.ownsRow_nil W0 B0 80 2)
          obtain ⟨i0, hi0, hz0, hz01, hz02⟩ := info_parts info_Itm
          obtain ⟨m, hm⟩ : ∃ m, rl.length = m := ⟨_, rfl⟩
          rw [hm] at y0 h40 h41
          replace hm := Lib.hid hm
          go_wp2
          go_loopw [9, 10] (fun t9 t10 wr2 => ∃ (k : Nat) (A9 : Option Addr) (c9 : Nat), t10 = .int .i64 k ∧ t9 = .slice A9 k c9 ∧ k ≤ m ∧ Hid (wr2.ownsRow B0 80 2 (.slice A9 k c9) k (rowC cItm (items0 (rl.take k)))) ∧ Hid (Below B0 W0 wr2)) (fun _ t _ => m - (intOf t).toNat)
          case atStart => exact ⟨0, none, 0, rfl, rfl, Nat.zero_le _, own0, Lib.hid (Below.refl _ _)⟩
          case round =>
            obtain ⟨k, A9, c9, rfl, rfl, hk, own, bel⟩ := hrel
            clear own0 y0
            have hBk := Lib.hid (hB.out.trans (bel.out.mono (by have := hB.out.size; have := hB0.out; omega)))
            have y0 := hc1.out wr hBk.out
            rw [hm.out] at y0
            rcases Nat.lt_or_ge k m with hkm | hkm
            · have hkm' : (k : Int) < (m : Int) := by omega
              have hkl : k < rl.length := by have := hm.out; omega
              obtain ⟨b2, o2, rfl, hcy⟩ := hcx.out k hkl
              have y1 := hcy wr hBk.out
              have hxr := hbd.out _ (List.getElem_mem hkl)
              have hmp := Lib.hid (show rowC cItm (items0 (rl.take (k + 1))) = rowC cItm (items0 (rl.take k)) ++ cItm ⟨rl[k].tdiv 8, 0⟩ by rw [items0_take rl k hkl, rowC_append, rowC_single])
              generalize rl[k] = xi at *
              have hBs : B0 ≤ wr.heap.size := by have := bel.out.size; have := hB0.out; omega
              clear hcy
              go_wp2_with (at_builtin; refine wpList_append_own_at _ rfl _ _ 74 rfl B0 80 i0 _ 2 16 Try.underlying74 hi0 hz0 hz01 hz02 rfl (by decide) _ k _ rfl (own_below own.out (by repeat (first | (with_reducible exact Below.refl _ _) | (with_reducible refine Below.drew ?_) | (with_reducible refine Below.alloc ?_ (by simp [more_size]; try omega) _) | (with_reducible refine Below.setCell ?_ (by simp [more_size]; try omega) _) | (with_reducible refine below_more ?_ _ (by simp [more_size]; try omega))))) _ 1 1 (cItm ⟨xi.tdiv 8, 0⟩) rfl rfl (cells_at _ (cItm ⟨xi.tdiv 8, 0⟩) _ rfl) (cItm_one _) (by unfold maxLen; omega) (by omega) (by simp; omega) ?_; intro v1 w1 own1 grow1 _ hat1; obtain ⟨g, cap, rfl⟩ := own_some own1 (by omega))
              rw [← hmp.out] at own1
              have bel1 := Lib.hid (bel.out.trans (grown_below (grown_after grow1) hBs (fun g h => own_ge own.out g h)))
              replace own1 := Lib.hid own1
              clear own bel grow1 hat1
              go_wp2
              exact ⟨⟨k + 1, _, cap, by go_num, rfl, by omega, own1, bel1⟩, by simp [intOf]; omega⟩
            · obtain rfl : k = m := by omega
              have own2 := own.out
              rw [List.take_of_length_le (by rw [hm.out]; exact Nat.le_refl _)] at own2
              obtain ⟨m, hmk⟩ : ∃ m, m = k := ⟨_, rfl⟩
              subst hmk
              have h0l : (items0 rl).length = m := by rw [items0_length, hm.out]
              have hBs : B0 ≤ wr.heap.size := by have := bel.out.size; have := hB0.out; omega
              clear own hBk hcx hbd hc1
              cases messy with
              | true =>
                have own9 := Lib.hid own2
                have bel9 := bel
                have hR0 := Lib.hid h0l
                have hs0 := Lib.hid (show InOrd8 true (items0 rl) from fun h => by cases h)
                clear own2 bel h0l
                obtain ⟨O, hOO⟩ : ∃ O, O = items0 rl := ⟨_, rfl⟩
                rw [← hOO] at own9 hR0 hs0
                clear hOO
                go_wp2
                go_loopw [7, 11] (fun t7 t11 wr3 => ∃ k : Nat, t11 = .int .i64 k ∧ t7 = .int .i64 ((n6 : Int) + (k : Int)) ∧ k ≤ m ∧ Hid (wr3.ownsRow B0 80 2 (.slice A9 m c9) m (rowC cItm (part8 n6 k O))) ∧ Hid (Below B0 W0 wr3)) (fun _ t _ => m - (intOf t).toNat)
                case atStart => exact ⟨0, rfl, by simp, Nat.zero_le _, Lib.hid (by rw [part8_zero]; exact own9.out), bel9⟩
                case round =>
                  obtain ⟨k, rfl, rfl, hk, own3, bel3⟩ := hrel
                  clear own9 bel9
                  rcases Nat.lt_or_ge k m with hkm | hkm
                  · have hkm' : (k : Int) < (m : Int) := by omega
                    have hkR : k < O.length := by have := hR0.out; omega
                    obtain ⟨g9, c9', e9⟩ := own_some own3.out (by omega)
                    injection e9 with e91 _ e93
                    subst e91 e93
                    have oa := own_at own3.out
                    have cell := oa.2.2.2.2.1 (k * 2 + 1) _ (item_id (part8 n6 k O) k (by rw [part8_length]; exact hkR))
                    have fz := oa.2.2.2.2.2 (k * 2 + 1)
                    have own5 := own_set own3.out (g := g9) rfl (k * 2 + 1) (by omega) (.int .i64 ((n6 : Int) + (k : Int)))
                    have hR0k : (part8 n6 k O)[k]? = some (O[k]) := by rw [List.getElem?_eq_getElem (by rw [part8_length]; exact hkR), part8_at n6 k O hkR]
                    have hset : (rowC cItm (part8 n6 k O)).set (k * 2 + 1) (.int .i64 ((n6 : Int) + (k : Int))) = rowC cItm (part8 n6 (k + 1) O) := by
                      rw [← part8_step n6 k O hkR]
                      exact rowC_set cItm_len (part8 n6 k O) k 1 ⟨O[k].n, ((n6 + k : Nat) : Int)⟩ _ (by rw [part8_length]; exact hkR) (by decide) (fun j hj hne => by
                        obtain rfl : j = 0 := by omega
                        rw [hR0k]; rfl) rfl
                    rw [hset] at own5
                    have bel5 := Lib.hid (bel3.out.trans (grown_below (grown_set _ ⟨g9, k * 2 + 1, none⟩ (.int .i64 ((n6 : Int) + (k : Int)))) (by have := bel3.out.size; have := hB0.out; omega) (fun g h => (show g9 = g from by injection h) ▸ oa.2.2.1)))
                    replace own5 := Lib.hid own5
                    clear oa own3 bel3 hR0k hset
                    generalize (part8 n6 k O)[k]'(by rw [part8_length]; exact hkR) = old at *
                    go_wp2
                    exact ⟨⟨k + 1, by go_num, by go_num, by omega, own5, bel5⟩, by simp [intOf]; omega⟩
                  · obtain rfl : k = m := by omega
                    have own4 := own3.out
                    have hR0' := hR0.out
                    have e4 : part8 n6 k O = num8 n6 O := by rw [← hR0']; exact part8_all n6 _
                    rw [e4] at own4
                    obtain ⟨i1, hi1, hz10, hz11, hz12⟩ := info_parts info_sl8
                    obtain ⟨i0, hi0, hz0, hz01, hz02⟩ := info_parts info_Itm
                    have hM4 := hMade.out.below (show Below W0.heap.size W0 wr from hB0.out ▸ bel3.out)
                    have h9 := own_row cItm_len (by rw [num8_length, hR0']) own4
                    obtain ⟨A9', c9', e9, h91, h92, h93, h94⟩ := h9
                    injection e9 with e91 _ e93
                    subst e91 e93
                    have hlt4 := own_lt own4
                    have hge4 := own_ge own4
                    have hl5 := own_lt hMade.out.own5
                    have hl6 := own_lt hMade.out.own6
                    have hLies : Lies wr (.slice A5 i c5) (.slice A6 n6 c6) ⟨A9, c9, num8 n6 O⟩ := ⟨h93, fun a e => by
                        have e' : A9 = some a := e
                        subst e'
                        have q1 := hlt4 a.block rfl
                        have q2 := hge4 a.block rfl
                        have q3 := hB0.out
                        exact ⟨q1, fun e2 => by have := hl5 a.block e2.symm; omega, fun e2 => by have := hl6 a.block e2.symm; omega⟩⟩
                    clear hl5 hl6
                    have hbW : w.heap.size ≤ wr.heap.size := by have := hB.out.size; have := bel3.out.size; omega
                    have KX := Lib.hid (show ∀ w5, (wr.alloc (.cells #[.slice A9 k c9] 74)).grownBy w5 (Value.slice A5 i c5).ownBlock → w5.ownsRow w.heap.size 80 2 (.slice A6 n6 c6) n6 (rowC cItm (Q.map (·.l)).flatten) ∧ (∀ ad, A9 = some ad → ∀ j u, (rowC cItm (num8 n6 O))[j]? = some u → w5.cell? (ad.add j) = some u) ∧ w.heap.size ≤ w5.heap.size from fun w5 g5 => by
                      have g5' := grown_after g5
                      refine ⟨own_kept' hM4.own6 fun g hg => g5'.block g (own_lt hM4.own6 g hg) (fun e2 => hM4.apart g e2.symm hg), ?_, by have := g5'.size; omega⟩
                      exact rowIn_news cItm_len (by decide) (h93.grown g5' (fun a e => (hLies.2 a e).2.1)))
                    have hq5 := Lib.hid hM4.own5
                    have hnl := Lib.hid (show (rowC cItm (num8 n6 O)).length = k * 2 by rw [rowC_length cItm_len, num8_length, hR0'])
                    have hno := Lib.hid (rowC_one cItm_one (num8 n6 O))
                    have hlen40 := Lib.hid (show O.length ≤ 40 by rw [hR0']; omega)
                    have hB4 := Lib.hid (hB.out.trans (bel3.out.mono (by have := hB.out.size; have := hB0.out; omega)))
                    replace hM4 := Lib.hid hM4
                    replace hLies := Lib.hid hLies
                    replace h94 := Lib.hid h94
                    clear own3 own4 h93 bel3 hMade hB hlt4 hge4
                    go_wp2_with (first
                      | (at_builtin; refine wpList_append_own_at _ rfl _ _ 97 rfl w.heap.size 74 i1 _ 1 24 Try.underlying97 hi1 hz10 hz11 hz12 rfl (by decide) (.slice A5 i c5) i (rowC cRw Q) rfl (own_below hq5.out (by repeat (first | (with_reducible exact Below.refl _ _) | (with_reducible refine Below.drew ?_) | (with_reducible refine Below.alloc ?_ (by simp [more_size]; try omega) _) | (with_reducible refine Below.setCell ?_ (by simp [more_size]; try omega) _) | (with_reducible refine below_more ?_ _ (by simp [more_size]; try omega))))) _ 1 1 [.slice A9 k c9] rfl rfl (cells_at _ [.slice A9 k c9] _ rfl) (fun u hu => by simp at hu; subst hu; rfl) (by unfold maxLen; omega) (by omega) (by simp; omega) ?_; intro v5 w5 own5 grow5 _ hat5; obtain ⟨X1, X2, X3⟩ := KX.out w5 grow5; replace X1 := Lib.hid X1; replace X2 := Lib.hid X2)
                      | (at_builtin; refine wpList_append_row rfl _ _ 74 rfl w.heap.size 80 i0 _ 2 16 Try.underlying74 hi0 hz0 hz01 hz02 rfl (by decide) (.slice A6 n6 c6) n6 _ rfl X1.out A9 k c9 _ rfl h94.out hnl.out X2.out hno.out (by unfold maxLen; omega) (by omega) X3 ?_; intro v6 w6 own6 grow6 hat6))
                    have grow5' := grown_after grow5
                    have hM6 := hM4.out.step hLies.out hlen40.out hs0.out (by rw [hR0.out]; exact own5) grow5' (hat5.imp id (fun h => ⟨_, h, by simp⟩)) (by rw [hR0.out]; exact own6) grow6 (hat6.imp id (fun h => ⟨_, h, Nat.le_refl _⟩))
                    rw [hR0.out] at hM6
                    obtain ⟨A5', c5', rfl, _, _, _, _⟩ := own_open hM6.own5
                    obtain ⟨A6', c6', rfl, _, _, _, _⟩ := own_open hM6.own6
                    have hB6 := Lib.hid ((hB4.out.trans (grown_below grow5' hbW (fun g h => own_ge hq5.out g h))).trans (grown_below grow6 X3 (fun g h => own_ge X1.out g h)))
                    replace hM6 := Lib.hid hM6
                    clear own5 own6 grow5 grow6 grow5' hat5 hat6 hM4 hLies KX hq5 X1 X2 hB4
                    go_wp2
                    exact ⟨⟨i + 1, n6 + k, A5', c5', A6', c6', _, by go_num, rfl, rfl, by go_num, by omega, by omega, hM6, hB6⟩, by simp [intOf]; omega⟩
              | false =>
                obtain ⟨A9', c9', e9, _, _, hr9, _⟩ := own_row cItm_len h0l own2
                injection e9 with e91 _ e93
                subst e91 e93
                have SR := Lib.hid (show Calls Try.prog 45 #[.slice A9 m c9] wr (fun e w' => ∃ v O, e = .returned v ∧ SortedOf (items0 rl) O ∧ w'.ownsRow wr.heap.size 80 2 v m (rowC cItm O) ∧ Below wr.heap.size wr w') from h0l ▸ sorted_any A9 c9 (items0 rl) wr (by omega) hr9)
                clear own2 hr9
                go_wp2_with fail
                refine SR.out.mono ?_
                rintro e w4 ⟨v4, O, rfl, hO, own4, bel4⟩
                have own9 := Lib.hid (own_base own4 hBs)
                obtain ⟨A9, c9, rfl, _, _, _, _⟩ := own_open own4
                have bel9 := Lib.hid (bel.out.trans (bel4.mono hBs))
                have hR0 := Lib.hid (show O.length = m by rw [hO.1.length_eq]; exact h0l)
                have hs0 := Lib.hid (show InOrd8 false O from fun _ => hO.2.1)
                clear own4 bel4 bel SR h0l hO
                go_wp2
                go_loopw [7, 11] (fun t7 t11 wr3 => ∃ k : Nat, t11 = .int .i64 k ∧ t7 = .int .i64 ((n6 : Int) + (k : Int)) ∧ k ≤ m ∧ Hid (wr3.ownsRow B0 80 2 (.slice A9 m c9) m (rowC cItm (part8 n6 k O))) ∧ Hid (Below B0 W0 wr3)) (fun _ t _ => m - (intOf t).toNat)
                case atStart => exact ⟨0, rfl, by simp, Nat.zero_le _, Lib.hid (by rw [part8_zero]; exact own9.out), bel9⟩
                case round =>
                  obtain ⟨k, rfl, rfl, hk, own3, bel3⟩ := hrel
                  clear own9 bel9
                  rcases Nat.lt_or_ge k m with hkm | hkm
                  · have hkm' : (k : Int) < (m : Int) := by omega
                    have hkR : k < O.length := by have := hR0.out; omega
                    obtain ⟨g9, c9', e9⟩ := own_some own3.out (by omega)
                    injection e9 with e91 _ e93
                    subst e91 e93
                    have oa := own_at own3.out
                    have cell := oa.2.2.2.2.1 (k * 2 + 1) _ (item_id (part8 n6 k O) k (by rw [part8_length]; exact hkR))
                    have fz := oa.2.2.2.2.2 (k * 2 + 1)
                    have own5 := own_set own3.out (g := g9) rfl (k * 2 + 1) (by omega) (.int .i64 ((n6 : Int) + (k : Int)))
                    have hR0k : (part8 n6 k O)[k]? = some (O[k]) := by rw [List.getElem?_eq_getElem (by rw [part8_length]; exact hkR), part8_at n6 k O hkR]
                    have hset : (rowC cItm (part8 n6 k O)).set (k * 2 + 1) (.int .i64 ((n6 : Int) + (k : Int))) = rowC cItm (part8 n6 (k + 1) O) := by
                      rw [← part8_step n6 k O hkR]
                      exact rowC_set cItm_len (part8 n6 k O) k 1 ⟨O[k].n, ((n6 + k : Nat) : Int)⟩ _ (by rw [part8_length]; exact hkR) (by decide) (fun j hj hne => by
                        obtain rfl : j = 0 := by omega
                        rw [hR0k]; rfl) rfl
                    rw [hset] at own5
                    have bel5 := Lib.hid (bel3.out.trans (grown_below (grown_set _ ⟨g9, k * 2 + 1, none⟩ (.int .i64 ((n6 : Int) + (k : Int)))) (by have := bel3.out.size; have := hB0.out; omega) (fun g h => (show g9 = g from by injection h) ▸ oa.2.2.1)))
                    replace own5 := Lib.hid own5
                    clear oa own3 bel3 hR0k hset
                    generalize (part8 n6 k O)[k]'(by rw [part8_length]; exact hkR) = old at *
                    go_wp2
                    exact ⟨⟨k + 1, by go_num, by go_num, by omega, own5, bel5⟩, by simp [intOf]; omega⟩
                  · obtain rfl : k = m := by omega
                    have own4 := own3.out
                    have hR0' := hR0.out
                    have e4 : part8 n6 k O = num8 n6 O := by rw [← hR0']; exact part8_all n6 _
                    rw [e4] at own4
                    obtain ⟨i1, hi1, hz10, hz11, hz12⟩ := info_parts info_sl8
                    obtain ⟨i0, hi0, hz0, hz01, hz02⟩ := info_parts info_Itm
                    have hM4 := hMade.out.below (show Below W0.heap.size W0 wr from hB0.out ▸ bel3.out)
                    have h9 := own_row cItm_len (by rw [num8_length, hR0']) own4
                    obtain ⟨A9', c9', e9, h91, h92, h93, h94⟩ := h9
                    injection e9 with e91 _ e93
                    subst e91 e93
                    have hlt4 := own_lt own4
                    have hge4 := own_ge own4
                    have hl5 := own_lt hMade.out.own5
                    have hl6 := own_lt hMade.out.own6
                    have hLies : Lies wr (.slice A5 i c5) (.slice A6 n6 c6) ⟨A9, c9, num8 n6 O⟩ := ⟨h93, fun a e => by
                        have e' : A9 = some a := e
                        subst e'
                        have q1 := hlt4 a.block rfl
                        have q2 := hge4 a.block rfl
                        have q3 := hB0.out
                        exact ⟨q1, fun e2 => by have := hl5 a.block e2.symm; omega, fun e2 => by have := hl6 a.block e2.symm; omega⟩⟩
                    clear hl5 hl6
                    have hbW : w.heap.size ≤ wr.heap.size := by have := hB.out.size; have := bel3.out.size; omega
                    have KX := Lib.hid (show ∀ w5, (wr.alloc (.cells #[.slice A9 k c9] 74)).grownBy w5 (Value.slice A5 i c5).ownBlock → w5.ownsRow w.heap.size 80 2 (.slice A6 n6 c6) n6 (rowC cItm (Q.map (·.l)).flatten) ∧ (∀ ad, A9 = some ad → ∀ j u, (rowC cItm (num8 n6 O))[j]? = some u → w5.cell? (ad.add j) = some u) ∧ w.heap.size ≤ w5.heap.size from fun w5 g5 => by
                      have g5' := grown_after g5
                      refine ⟨own_kept' hM4.own6 fun g hg => g5'.block g (own_lt hM4.own6 g hg) (fun e2 => hM4.apart g e2.symm hg), ?_, by have := g5'.size; omega⟩
                      exact rowIn_news cItm_len (by decide) (h93.grown g5' (fun a e => (hLies.2 a e).2.1)))
                    have hq5 := Lib.hid hM4.own5
                    have hnl := Lib.hid (show (rowC cItm (num8 n6 O)).length = k * 2 by rw [rowC_length cItm_len, num8_length, hR0'])
                    have hno := Lib.hid (rowC_one cItm_one (num8 n6 O))
                    have hlen40 := Lib.hid (show O.length ≤ 40 by rw [hR0']; omega)
                    have hB4 := Lib.hid (hB.out.trans (bel3.out.mono (by have := hB.out.size; have := hB0.out; omega)))
                    replace hM4 := Lib.hid hM4
                    replace hLies := Lib.hid hLies
                    replace h94 := Lib.hid h94
                    clear own3 own4 h93 bel3 hMade hB hlt4 hge4
                    go_wp2_with (first
                      | (at_builtin; refine wpList_append_own_at _ rfl _ _ 97 rfl w.heap.size 74 i1 _ 1 24 Try.underlying97 hi1 hz10 hz11 hz12 rfl (by decide) (.slice A5 i c5) i (rowC cRw Q) rfl (own_below hq5.out (by repeat (first | (with_reducible exact Below.refl _ _) | (with_reducible refine Below.drew ?_) | (with_reducible refine Below.alloc ?_ (by simp [more_size]; try omega) _) | (with_reducible refine Below.setCell ?_ (by simp [more_size]; try omega) _) | (with_reducible refine below_more ?_ _ (by simp [more_size]; try omega))))) _ 1 1 [.slice A9 k c9] rfl rfl (cells_at _ [.slice A9 k c9] _ rfl) (fun u hu => by simp at hu; subst hu; rfl) (by unfold maxLen; omega) (by omega) (by simp; omega) ?_; intro v5 w5 own5 grow5 _ hat5; obtain ⟨X1, X2, X3⟩ := KX.out w5 grow5; replace X1 := Lib.hid X1; replace X2 := Lib.hid X2)
                      | (at_builtin; refine wpList_append_row rfl _ _ 74 rfl w.heap.size 80 i0 _ 2 16 Try.underlying74 hi0 hz0 hz01 hz02 rfl (by decide) (.slice A6 n6 c6) n6 _ rfl X1.out A9 k c9 _ rfl h94.out hnl.out X2.out hno.out (by unfold maxLen; omega) (by omega) X3 ?_; intro v6 w6 own6 grow6 hat6))
                    have grow5' := grown_after grow5
                    have hM6 := hM4.out.step hLies.out hlen40.out hs0.out (by rw [hR0.out]; exact own5) grow5' (hat5.imp id (fun h => ⟨_, h, by simp⟩)) (by rw [hR0.out]; exact own6) grow6 (hat6.imp id (fun h => ⟨_, h, Nat.le_refl _⟩))
                    rw [hR0.out] at hM6
                    obtain ⟨A5', c5', rfl, _, _, _, _⟩ := own_open hM6.own5
                    obtain ⟨A6', c6', rfl, _, _, _, _⟩ := own_open hM6.own6
                    have hB6 := Lib.hid ((hB4.out.trans (grown_below grow5' hbW (fun g h => own_ge hq5.out g h))).trans (grown_below grow6 X3 (fun g h => own_ge X1.out g h)))
                    replace hM6 := Lib.hid hM6
                    clear own5 own6 grow5 grow6 grow5' hat5 hat6 hM4 hLies KX hq5 X1 X2 hB4
                    go_wp2
                    exact ⟨⟨i + 1, n6 + k, A5', c5', A6', c6', _, by go_num, rfl, rfl, by go_num, by omega, by omega, hM6, hB6⟩, by simp [intOf]; omega⟩
      · obtain rfl : i = Ls.length := by omega
        have hM := hMade.out
        clear hcell
        generalize hN : Ls.length = N at *
        have hR5 := own_row cRw_len hM.len hM.own5
        obtain ⟨A5', c5', e5, _, _, h5, h5n⟩ := hR5
        injection e5 with e51 _ e53
        subst e51 e53
        have hR6 := own_row cItm_len hM.tot hM.own6
        obtain ⟨A6', c6', e6, h6c, _, h6, h6n⟩ := hR6
        injection e6 with e61 _ e63
        subst e61 e63
        have htot : (itsR (Q.map (·.l))).flatten.length = n6 := by
          have := congrArg List.length (itsR_vals (Q.map (·.l)))
          rw [List.length_map] at this
          rw [this, hM.tot]
        have MG := merge_It3 ltItm_swo tells_less A5 c5 Q wr (by rw [hM.len]; omega) (fun r hr => by have := hM.few r hr; omega) (by rw [htot]; omega) h5 (fun r hr => (hM.lies r hr).1)
        rw [hM.len] at MG
        replace MG := Lib.hid MG
        have hrise := Lib.hid hM.rise
        have hord := Lib.hid hM.ord
        have htotL := Lib.hid hM.tot
        replace htot := Lib.hid htot
        generalize Q.map (·.l) = LL at *
        clear hM hMade h5 h5n
        go_wp2_with fail
        refine MG.out.mono ?_
        rintro e w2 ⟨v, D, rfl, own2, bel2, hD1, hD2⟩
        have hDl : D.length = n6 := by rw [hD1.length_eq, htot.out]
        rw [hDl] at own2
        obtain ⟨Am, cm, rfl, hmc1, hmc2, hm2, _⟩ := own_row cItm_len (by rw [List.length_map, hDl]) own2
        have h62 := Lib.hid (h6.below bel2)
        have hB2 := Lib.hid (hB.out.trans (bel2.mono hB.out.size))
        have hDp : (D.map (·.v)).Perm LL.flatten := by have := hD1.map (·.v); rwa [itsR_vals] at this
        have hMl : (D.map (·.v)).length = n6 := by rw [List.length_map, hDl]
        replace hm2 := Lib.hid hm2
        clear own2 bel2 h6 hB MG
        cases messy with
        | false =>
          obtain ⟨T, t1, t2⟩ := itsR_ex ltItm_swo LL
          have hDT := hD2 T t1 t2 (fun r hr => NI_le (hord.out rfl r hr))
          subst hDT
          have hNI := merge_NI t1 t2 (hord.out rfl) (rising_acc hrise.out)
          have SR := Lib.hid (show Calls Try.prog 45 #[.slice A6 n6 c6] w2 (fun e w' => ∃ v O, e = .returned v ∧ SortedOf LL.flatten O ∧ w'.ownsRow w2.heap.size 80 2 v n6 (rowC cItm O) ∧ Below w2.heap.size w2 w') from htotL.out ▸ sorted_any A6 c6 LL.flatten w2 (by rw [htotL.out]; omega) h62.out)
          replace hNI := Lib.hid hNI
          replace hDp := Lib.hid hDp
          replace hMl := Lib.hid hMl
          clear t1 t2 hD1 hD2 h62
          go_wp2_with fail
          refine SR.out.mono ?_
          rintro e w3 ⟨v3, O, rfl, hO, own3, bel3⟩
          have hOD : D.map (·.v) = O := sorted_unique ltNI_swo _ _ (hDp.out.trans hO.1.symm) hNI.out (hO.2.2 (rising_ids hrise.out))
          have hOl : O.length = n6 := by rw [← hOD, hMl.out]
          obtain ⟨A3, c3, rfl, _, _, h3, _⟩ := own_row cItm_len hOl own3
          have hm3 := hm2.out.below bel3
          rw [hOD] at hm3
          have SM := same_any8 Am A3 cm c3 O O w3 (by omega) (by omega) hm3 h3
          rw [hOl, decide_eq_true rfl] at SM
          have hB3 := Lib.hid (hB2.out.trans (bel3.mono hB2.out.size))
          replace SM := Lib.hid SM
          clear own3 bel3 h3 hm3 hO hOD SR
          go_wp2_with fail
          refine SM.out.mono' ?_; intro z
          go_wp2
          go_ret
          exact ⟨rfl, more_of_below (below_more hB3.out _ hB3.out.size)⟩
        | true =>
          have hidL := Lib.hid (show ∀ k (h : k < LL.flatten.length), LL.flatten[k].id = (k : Int) from hrise.out)
          generalize D.map (·.v) = Mv at *
          generalize LL.flatten = allL at *
          clear hD1 hD2 hord hrise htot
          have hmk := run_make_row' 44 4 (.bool false) 1 Try.underlying44 info_bool8 rfl .i64 .i64 n6 (by omega) (by omega)
          rw [made_bools8] at hmk
          obtain ⟨g, hg⟩ : ∃ g, g = w2.heap.size := ⟨_, rfl⟩
          have hblk := Lib.hid (show Blk (w2.alloc (.cells (Array.replicate n6 (.bool false)) 4)) g ((List.replicate n6 false).map Value.bool).toArray 4 from by
            rw [← made_bools8, show madeCells #[.bool false] n6 = Array.replicate n6 (.bool false) by rw [made_bools8]; simp]
            exact Blk.new _ _ _ hg)
          have hbel := Lib.hid (show Below w2.heap.size w2 (w2.alloc (.cells (Array.replicate n6 (.bool false)) 4)) from Below.alloc (Below.refl _ _) (Nat.le_refl _) _)
          replace hDp := Lib.hid hDp
          replace hMl := Lib.hid hMl
          have EN := run_neq_Itm
          have EG := guard_Itm
          go_wp2
          rw [← hg]
          replace hg := Lib.hid hg
          go_loopw [14, 15] (fun t14 _ wr => ∃ (i : Nat) (U : List Bool), t14 = .int .i64 i ∧ i ≤ n6 ∧ Hid (UsedM Mv i U) ∧ Hid (U.length = n6) ∧ Hid (Blk wr g (U.map Value.bool).toArray 4) ∧ Hid (Below w2.heap.size w2 wr)) (fun t _ _ => n6 - (intOf t).toNat)
          case atStart => exact ⟨0, List.replicate n6 false, rfl, Nat.zero_le _, Lib.hid (usedM_none _ n6), Lib.hid (by simp), hblk, hbel⟩
          case round =>
            obtain ⟨i, U, rfl, hik, hU, hUl, hBk, hBW⟩ := hrel
            clear hblk hbel hmk
            rcases Nat.lt_or_ge i n6 with hil | hil
            · have hil' : (i : Int) < (n6 : Int) := by omega
              obtain ⟨p, hpl, hmi, hpf, hnext⟩ := usedM_next hDp.out hidL.out (by have := hMl.out; omega) hU.out (by rw [hUl.out, htotL.out])
              have hpn : p < n6 := by have := htotL.out; omega
              have hlp : allL[p]? = some allL[p] := List.getElem?_eq_getElem hpl
              have hpi := hidL.out p hpl
              generalize allL[p] = x at *
              obtain ⟨xn, xi⟩ := x
              obtain rfl : xi = (p : Int) := hpi
              obtain ⟨bm, om, e1, cm1⟩ := row_itm hm2.out hBW.out hmi
              obtain ⟨ba, oa, e2, ca1⟩ := row_itm h62.out hBW.out hlp
              subst e1 e2
              have cmn := fun y => (cm1 y).1
              have cmi := fun y => (cm1 y).2
              have can := fun y => (ca1 y).1
              have cai := fun y => (ca1 y).2
              have cm0 := cmi ⟨#[], wr.drawn⟩
              rw [more_self] at cm0
              have hp0 : ((p : Int) < 0) = False := eq_false (by omega)
              have hp1 : ((n6 : Int) ≤ (p : Int)) = False := eq_false (by omega)
              have hp2 : (n6 ≤ p) = False := eq_false (by omega)
              have hpk' : (p : Int) < (n6 : Int) := by omega
              have hUp : p < U.length := by have := hUl.out; omega
              have cu := fun y => (show (more wr y).cell? ⟨g, p, none⟩ = some (.bool false) from by
                rw [(hBk.out.more y).cell p]; simp [hpf])
              have fu := fun y => (show (more wr y).frozen? ⟨g, p, none⟩ = false from (hBk.out.more y).free p)
              have hfin := Lib.hid (fun y => (show Blk ((more wr y).setCell ⟨g, p, none⟩ (.bool true)) g ((U.set p true).map Value.bool).toArray 4 from by
                have := (hBk.out.more y).set p (.bool true)
                rwa [show ((U.map Value.bool).toArray.setIfInBounds p (.bool true)) = ((U.set p true).map Value.bool).toArray by simp [List.map_set]] at this))
              have hfb := Lib.hid (fun y => (show Below w2.heap.size w2 ((more wr y).setCell ⟨g, p, none⟩ (.bool true)) from Below.setCell (below_more hBW.out y hBW.out.size) (by have := hg.out; show w2.heap.size ≤ g; omega) _))
              have hUl2 := Lib.hid (show (U.set p true).length = n6 by rw [List.length_set]; exact hUl.out)
              replace hnext := Lib.hid hnext
              replace hmi := Lib.hid hmi
              replace hlp := Lib.hid hlp
              clear hBk hBW hU hUl hpf cm1 ca1
              go_wp2_with fail
              refine wp_region_more (by kernel_rfl) (by kernel_rfl) ?_
              repeat (go_big_quiet_step (fail))
              refine wpQuiet_nil ?_
              rintro _ ⟨y2, rfl⟩
              go_wp2
              exact ⟨⟨i + 1, _, by go_num, by omega, hnext, hUl2, hfin.out _, hfb.out _⟩, by simp [intOf]; omega⟩
            · go_wp2
              go_ret
              exact ⟨rfl, more_of_below (hB2.out.trans (hBW.out.mono hB2.out.size))⟩
theorem law_HeapMerges (v0 v1 : Value) (w : World) (h0 : IsRows8 w v0) (h1 : IsBool v1) :
    Calls Try.prog 11 #[v0, v1] w fun e w' => e = .returned (.bool true) ∧ Below w.heap.size w w' := by
  obtain ⟨A, ca, l, rfl, q1, q2, q3, ql, qa⟩ := h0
  obtain ⟨b, rfl⟩ := h1
  exact law_of (walk_HeapMerges b A ca l w ql (by omega) qa)
end Go.Proofs.Ytilpgojkbgbinaa
