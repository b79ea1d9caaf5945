/- HashChains: what is there behind so many rounds; the calls as the statement makes them. -/
import Derived.Test.YtijegkiapbmekaaHown
import Derived.Test.YtijegkiapbmekaaHall0
set_option maxRecDepth 100000
set_option linter.unusedVariables false
set_option linter.unusedSimpArgs false
namespace Go.Proofs.Ytijegkiapbmekaa
open Go.RowKit
def cnt9 (P : Nat → Bool) : Nat := ((List.range 256).filter P).length
theorem cnt_aux (P : Nat → Bool) (v : Nat) : ∀ l : List Nat, l.Pairwise (· ≠ ·) → (v ∉ l → (l.filter (fun x => P x || x == v)).length = (l.filter P).length) ∧ (v ∈ l → P v = false → (l.filter (fun x => P x || x == v)).length = (l.filter P).length + 1)
  | [], _ => ⟨fun _ => rfl, fun h => by cases h⟩
  | a :: l, h => by
    obtain ⟨h1, h2⟩ := List.pairwise_cons.1 h
    obtain ⟨i1, i2⟩ := cnt_aux P v l h2
    constructor
    · intro hv
      simp at hv
      have hne : (a == v) = false := by simp; exact fun e => hv.1 e.symm
      rw [List.filter_cons, List.filter_cons, hne, Bool.or_false]
      cases P a <;> simp [i1 hv.2]
    · intro hv hp
      by_cases e : a = v
      · subst e
        have hn : a ∉ l := fun q => h1 a q rfl
        rw [List.filter_cons, List.filter_cons, hp]
        simp [i1 hn]
      · have hne : (a == v) = false := by simpa using e
        have hm : v ∈ l := by
          rcases List.mem_cons.1 hv with q | q
          · exact absurd q.symm e
          · exact q
        rw [List.filter_cons, List.filter_cons, hne, Bool.or_false]
        cases P a <;> simp [i2 hm hp]
theorem range_ne (n : Nat) : (List.range n).Pairwise (· ≠ ·) := List.pairwise_lt_range.imp (fun h e => by omega)
theorem cnt_set {P : Nat → Bool} {v : Nat} (hv : v < 256) (h : P v = false) : cnt9 (fun x => P x || x == v) = cnt9 P + 1 :=
  (cnt_aux P v _ (range_ne 256)).2 (List.mem_range.2 hv) h
theorem or_same {P : Nat → Bool} {v : Nat} (h : P v = true) : (fun x => P x || x == v) = P := by
  funext x
  by_cases e : x = v
  · subst e; simp [h]
  · have : (x == v) = false := by simpa using e
    simp [this]
theorem cnt_clear {P : Nat → Bool} {v : Nat} (hv : v < 256) (h : P v = true) : cnt9 (fun x => P x && !(x == v)) + 1 = cnt9 P := by
  have := cnt_set (P := fun x => P x && !(x == v)) hv (by simp)
  rw [← this]
  congr 1
  funext x
  by_cases e : x = v
  · subst e; simp [h]
  · have : (x == v) = false := by simpa using e
    simp [this]
theorem cnt_none {P : Nat → Bool} (h : ∀ v, v < 256 → P v = false) : cnt9 P = 0 := by
  unfold cnt9
  rw [List.length_eq_zero_iff, List.filter_eq_nil_iff]
  intro v hv
  rw [h v (List.mem_range.1 hv)]
  simp
theorem cnt_le (P : Nat → Bool) : cnt9 P ≤ 256 := by
  have := List.length_filter_le P (List.range 256)
  simpa [cnt9] using this
theorem numL_inj {a b : Int} (h : numL a = numL b) : a = b := by
  unfold numL at h
  injection h with h
  injection h
/-- what an index holds: each number v that is there, with the rest of v + 1 -/
def Cont (C : List Chn) (P : Nat → Bool) (N : Nat) : Prop := ∀ key id, Mem C key id ↔ ∃ v : Nat, v < 256 ∧ P v = true ∧ id = (v : Int) + 1 ∧ key = numL (((v + 1) % N : Nat) : Int)
theorem Cont.nil (N : Nat) : Cont [] (fun _ => false) N := fun key id => ⟨(fun ⟨c, hc, _⟩ => by cases hc), (fun ⟨v, _, h, _⟩ => by cases h)⟩
theorem Cont.at {C : List Chn} {P : Nat → Bool} {N : Nat} (h : Cont C P N) {v : Nat} (hv : v < 256) : Mem C (numL (((v + 1) % N : Nat) : Int)) ((v : Int) + 1) ↔ P v = true := by
  rw [h]
  constructor
  · rintro ⟨x, _, hp, e, _⟩
    have : x = v := by omega
    subst this; exact hp
  · intro hp; exact ⟨v, hv, hp, rfl, rfl⟩
theorem Cont.set {C C' : List Chn} {P : Nat → Bool} {N v : Nat} (h : Cont C P N) (hv : v < 256) (hm : ∀ k' i, Mem C' k' i ↔ Mem C k' i ∨ (k' = numL (((v + 1) % N : Nat) : Int) ∧ i = (v : Int) + 1)) : Cont C' (fun x => P x || x == v) N := fun key id => by
  rw [hm, h]
  constructor
  · rintro (⟨x, h1, h2, h3, h4⟩ | ⟨rfl, rfl⟩)
    · exact ⟨x, h1, by simp [h2], h3, h4⟩
    · exact ⟨v, hv, by simp, rfl, rfl⟩
  · rintro ⟨x, h1, h2, h3, h4⟩
    simp at h2
    rcases h2 with q | q
    · exact .inl ⟨x, h1, q, h3, h4⟩
    · subst q; exact .inr ⟨h4, h3⟩
theorem Cont.clear {C C' : List Chn} {P : Nat → Bool} {N v : Nat} (h : Cont C P N) (hm : ∀ k' i, Mem C' k' i ↔ Mem C k' i ∧ ¬ (k' = numL (((v + 1) % N : Nat) : Int) ∧ i = (v : Int) + 1)) : Cont C' (fun x => P x && !(x == v)) N := fun key id => by
  rw [hm, h]
  constructor
  · rintro ⟨⟨x, h1, h2, h3, h4⟩, hn⟩
    refine ⟨x, h1, ?_, h3, h4⟩
    have : x ≠ v := fun e => hn (by subst e; exact ⟨h4, h3⟩)
    simp [h2, this]
  · rintro ⟨x, h1, h2, h3, h4⟩
    simp at h2
    exact ⟨⟨x, h1, h2.1, h3, h4⟩, fun q => h2.2 (by have := q.2; omega)⟩
/-- the numbers with a rest, up to one -/
def wantL (P : Nat → Bool) (N k i : Nat) : List Int := ((List.range i).filter (fun x => P x && (x + 1) % N == k)).map (fun x : Nat => (x : Int) + 1)
theorem wantL_zero (P : Nat → Bool) (N k : Nat) : wantL P N k 0 = [] := rfl
theorem wantL_yes {P : Nat → Bool} {N k i : Nat} (h1 : P i = true) (h2 : (i + 1) % N = k) : wantL P N k (i + 1) = wantL P N k i ++ [(i : Int) + 1] := by
  unfold wantL
  rw [List.range_succ, List.filter_append, List.map_append]
  simp [h1, h2]
theorem wantL_no {P : Nat → Bool} {N k i : Nat} (h : ¬ (P i = true ∧ (i + 1) % N = k)) : wantL P N k (i + 1) = wantL P N k i := by
  unfold wantL
  rw [List.range_succ, List.filter_append, List.map_append]
  have : ([i].filter (fun x => P x && (x + 1) % N == k)) = [] := by
    rw [List.filter_eq_nil_iff]
    intro x hx
    simp at hx
    subst hx
    simpa using h
  rw [this]
  simp
theorem wantL_mem {P : Nat → Bool} {N k i : Nat} {id : Int} : id ∈ wantL P N k i ↔ ∃ v : Nat, v < i ∧ P v = true ∧ (v + 1) % N = k ∧ id = (v : Int) + 1 := by
  unfold wantL
  simp only [List.mem_map, List.mem_filter, List.mem_range, Bool.and_eq_true, beq_iff_eq]
  constructor
  · rintro ⟨v, ⟨h1, h2, h3⟩, rfl⟩; exact ⟨v, h1, h2, h3, rfl⟩
  · rintro ⟨v, h1, h2, h3, rfl⟩; exact ⟨v, ⟨h1, h2, h3⟩, rfl⟩
theorem wantL_rise (P : Nat → Bool) (N k i : Nat) : (wantL P N k i).Pairwise (· < ·) := by
  unfold wantL
  exact List.pairwise_map.2 ((List.pairwise_lt_range.filter _).imp (fun h => by omega))
theorem wantL_len (P : Nat → Bool) (N k i : Nat) : (wantL P N k i).length ≤ i := by
  unfold wantL
  rw [List.length_map]
  have := List.length_filter_le (fun x => P x && (x + 1) % N == k) (List.range i)
  simpa using this
/-- those whose rest is k or more -/
def restP (P : Nat → Bool) (N k : Nat) (v : Nat) : Bool := P v && decide (k ≤ (v + 1) % N)
/-- .. behind j of those whose rest is k -/
def leftP (P : Nat → Bool) (N k j : Nat) (v : Nat) : Bool := restP P N k v && !((wantL P N k 256).take j).contains ((v : Int) + 1)
theorem restP_zero (P : Nat → Bool) (N : Nat) : restP P N 0 = P := by funext v; simp [restP]
theorem restP_end (P : Nat → Bool) {N : Nat} (hN : 0 < N) (v : Nat) : restP P N N v = false := by
  have := Nat.mod_lt (v + 1) hN
  unfold restP
  rw [decide_eq_false (by omega)]
  simp
theorem leftP_zero (P : Nat → Bool) (N k : Nat) : leftP P N k 0 = restP P N k := by funext v; simp [leftP]
theorem want_rest (P : Nat → Bool) (N k i : Nat) : wantL (restP P N k) N k i = wantL P N k i := by
  unfold wantL
  congr 1
  refine List.filter_congr (fun x _ => ?_)
  unfold restP
  by_cases h : (x + 1) % N = k
  · simp [h]
  · have : ((x + 1) % N == k) = false := by simpa using h
    simp [this]
theorem want_gone (P : Nat → Bool) (N k i : Nat) : wantL (restP P N (k + 1)) N k i = [] := by
  unfold wantL
  rw [List.map_eq_nil_iff, List.filter_eq_nil_iff]
  intro x _
  unfold restP
  by_cases h : (x + 1) % N = k
  · simp [h]
  · have : ((x + 1) % N == k) = false := by simpa using h
    simp [this]
theorem leftP_end (P : Nat → Bool) (N k : Nat) : (fun v => v < 256 ∧ leftP P N k (wantL P N k 256).length v = true) = fun v => v < 256 ∧ restP P N (k + 1) v = true := by
  funext v
  apply propext
  unfold leftP
  rw [List.take_length]
  by_cases hv : v < 256
  · simp only [hv, true_and]
    unfold restP
    simp only [Bool.and_eq_true, Bool.not_eq_true', decide_eq_true_eq]
    constructor
    · rintro ⟨⟨h1, h2⟩, h3⟩
      refine ⟨h1, ?_⟩
      rcases Nat.lt_or_ge k ((v + 1) % N) with q | q
      · exact q
      · have e : (v + 1) % N = k := by omega
        have : ((v : Int) + 1) ∈ wantL P N k 256 := wantL_mem.2 ⟨v, hv, h1, e, rfl⟩
        rw [← List.contains_iff_mem] at this
        rw [h3] at this; cases this
    · rintro ⟨h1, h2⟩
      refine ⟨⟨h1, by omega⟩, ?_⟩
      cases hc : (wantL P N k 256).contains ((v : Int) + 1) with
      | false => rfl
      | true =>
        obtain ⟨x, _, _, e, e2⟩ := wantL_mem.1 (List.contains_iff_mem.1 hc)
        have : x = v := by omega
        subst this; omega
  · simp [hv]
theorem leftP_succ {P : Nat → Bool} {N k j v : Nat} (hj : j < (wantL P N k 256).length) (hv : (wantL P N k 256)[j] = (v : Int) + 1) : leftP P N k (j + 1) = fun x => leftP P N k j x && !(x == v) := by
  funext x
  unfold leftP
  have e : ((wantL P N k 256).take (j + 1)).contains ((x : Int) + 1) = (((wantL P N k 256).take j).contains ((x : Int) + 1) || x == v) := by
    rw [Bool.eq_iff_iff, Bool.or_eq_true, List.contains_iff_mem, List.contains_iff_mem, List.take_succ_eq_append_getElem hj, List.mem_append, List.mem_singleton, beq_iff_eq, hv]
    constructor
    · rintro (q | q)
      · exact .inl q
      · exact .inr (by omega)
    · rintro (q | q)
      · exact .inl q
      · exact .inr (by omega)
  rw [e]
  cases restP P N k x <;> simp
theorem leftP_there {P : Nat → Bool} {N k j v : Nat} (hj : j < (wantL P N k 256).length) (hv : (wantL P N k 256)[j] = (v : Int) + 1) : v < 256 ∧ P v = true ∧ (v + 1) % N = k ∧ leftP P N k j v = true := by
  obtain ⟨x, h1, h2, h3, h4⟩ := wantL_mem.1 (List.getElem_mem hj)
  rw [hv] at h4
  have : x = v := by omega
  subst this
  refine ⟨h1, h2, h3, ?_⟩
  unfold leftP restP
  have : ((wantL P N k 256).take j).contains ((x : Int) + 1) = false := by
    cases hc : ((wantL P N k 256).take j).contains ((x : Int) + 1) with
    | false => rfl
    | true =>
      obtain ⟨i, hi, e⟩ := List.mem_take_iff_getElem.1 (List.contains_iff_mem.1 hc)
      have := (List.pairwise_iff_getElem.1 (wantL_rise P N k 256)) i j (by omega) hj (by omega)
      omega
  rw [this, h2, h3]
  simp
theorem cnt_congr {P Q : Nat → Bool} (h : (fun v => v < 256 ∧ P v = true) = fun v => v < 256 ∧ Q v = true) : cnt9 P = cnt9 Q := by
  unfold cnt9
  congr 1
  refine List.filter_congr (fun v hv => ?_)
  have := congrFun h v
  have hl := List.mem_range.1 hv
  simp only [hl, true_and] at this
  rw [Bool.eq_iff_iff]
  exact iff_of_eq this
theorem Cont.congr {C : List Chn} {P Q : Nat → Bool} {N : Nat} (h : (fun v => v < 256 ∧ P v = true) = fun v => v < 256 ∧ Q v = true) (hc : Cont C P N) : Cont C Q N := fun key id => by
  rw [hc]
  constructor
  · rintro ⟨v, h1, h2, h3⟩
    have : v < 256 ∧ Q v = true := (congrFun h v) ▸ (⟨h1, h2⟩ : v < 256 ∧ P v = true)
    exact ⟨v, this.1, this.2, h3⟩
  · rintro ⟨v, h1, h2, h3⟩
    have : v < 256 ∧ P v = true := (congrFun h v).symm ▸ (⟨h1, h2⟩ : v < 256 ∧ Q v = true)
    exact ⟨v, this.1, this.2, h3⟩
section
variable {w0 W w : World} {F : Nat → Prop} {p : Nat} {C : List Chn} {P : Nat → Bool} {N k : Nat}
theorem ch_insert (h : HG w0 W p false (cnt9 P : Nat) k C F) (hc : Cont C P N) (hk : k ≤ 900) (hN : 0 < N ∧ N < 10) {v : Nat} (hv : v < 256) :
    Calls Try.prog 9 #[.pointer (some ⟨p, 0, none⟩), .slice (some ⟨W.heap.size, 0, none⟩) 1 1, .int .i64 ((v : Int) + 1)] (W.alloc (numO (((v + 1) % N : Nat) : Int))) fun e w' => ∃ (er : Int) (C' : List Chn) (F' : Nat → Prop), e = .returned (.int .i64 er) ∧ (er == 0) = !P v ∧
      Hid (HG w0 w' p false (cnt9 (fun x => P x || x == v) : Nat) (k + 1) C' F' ∧ Cont C' (fun x => P x || x == v) N ∧ Chg F W w' ∧ Grew W F F') := by
  have hb : Below W.heap.size W (W.alloc (numO (((v + 1) % N : Nat) : Int))) := (by repeat (first | (with_reducible exact Below.refl _ _) | (with_reducible refine Below.drew ?_) | (with_reducible refine Below.alloc ?_ (by simp [more_size]; try omega) _) | (with_reducible refine Below.setCell ?_ (by simp [more_size]; try omega) _) | (with_reducible refine below_more ?_ _ (by simp [more_size]; try omega))))
  have hr : (v + 1) % N < 10 := by have := Nat.mod_lt (v + 1) hN.1; omega
  have hcl := cnt_le P
  have low : ∀ {F' : Nat → Prop}, Grew (W.alloc (numO (((v + 1) % N : Nat) : Int))) F F' → Grew W F F' := fun hG => ⟨hG.1, fun k hk => (hG.2 k hk).imp (fun q => q) (fun q => Nat.le_trans hb.size q)⟩
  refine (hg_insert (key := numL (((v + 1) % N : Nat) : Int)) (h.below hb) hk (by omega) _ 1 (numL_ok _ (by omega)) (by simp [numL]) (fun e => by cases e) (numIn10 _ W) ((v : Int) + 1)).mono ?_
  rintro e w' ⟨er, n', C', F', rfl, hX⟩
  obtain ⟨h1, h2, h3, h4⟩ := hX.out
  have hat := hc.at hv
  rcases h2 with ⟨q1, rfl, rfl, rfl⟩ | ⟨_, q, _⟩ | ⟨q1, _, rfl, rfl, q2⟩
  · have hp := hat.1 q1
    refine ⟨72, C', F', rfl, by rw [hp]; rfl, Lib.hid ?_⟩
    rw [or_same hp]
    exact ⟨h1, hc, (Chg.of_below hb).then h3, low h4⟩
  · cases q
  · have hp : P v = false := by
      cases hpv : P v with
      | false => rfl
      | true => exact absurd (hat.2 hpv) q1
    refine ⟨0, C', F', rfl, by rw [hp]; rfl, Lib.hid ⟨?_, hc.set hv q2, (Chg.of_below hb).then h3, low h4⟩⟩
    rw [cnt_set hv hp]
    exact h1
theorem ch_erase (h : HG w0 W p false (cnt9 P : Nat) k C F) (hc : Cont C P N) (hk : k ≤ 900) (hN : 0 < N ∧ N < 10) {v : Nat} (hv : v < 256) (hp : P v = true) :
    Calls Try.prog 18 #[.pointer (some ⟨p, 0, none⟩), .slice (some ⟨W.heap.size, 0, none⟩) 1 1, .int .i64 ((v : Int) + 1)] (W.alloc (numO (((v + 1) % N : Nat) : Int))) fun e w' => ∃ (C' : List Chn) (F' : Nat → Prop), e = .returned (.int .i64 0) ∧
      Hid (HG w0 w' p false (cnt9 (fun x => P x && !(x == v)) : Nat) k C' F' ∧ Cont C' (fun x => P x && !(x == v)) N ∧ Chg F W w' ∧ Grew W F F') := by
  have hb : Below W.heap.size W (W.alloc (numO (((v + 1) % N : Nat) : Int))) := (by repeat (first | (with_reducible exact Below.refl _ _) | (with_reducible refine Below.drew ?_) | (with_reducible refine Below.alloc ?_ (by simp [more_size]; try omega) _) | (with_reducible refine Below.setCell ?_ (by simp [more_size]; try omega) _) | (with_reducible refine below_more ?_ _ (by simp [more_size]; try omega))))
  have hr : (v + 1) % N < 10 := by have := Nat.mod_lt (v + 1) hN.1; omega
  have hcl := cnt_le P
  have low : ∀ {F' : Nat → Prop}, Grew (W.alloc (numO (((v + 1) % N : Nat) : Int))) F F' → Grew W F F' := fun hG => ⟨hG.1, fun k hk => (hG.2 k hk).imp (fun q => q) (fun q => Nat.le_trans hb.size q)⟩
  refine (hg_erase (key := numL (((v + 1) % N : Nat) : Int)) (h.below hb) hk (by omega) _ 1 (numL_ok _ (by omega)) (by simp [numL]) (fun x e q => by injection e with e; subst e; have := h.lt _ q; simp at this) (numIn10 _ W) ((v : Int) + 1)).mono ?_
  rintro e w' ⟨er, n', C', F', rfl, hX⟩
  obtain ⟨h1, h2, h3, h4⟩ := hX.out
  have hat := (hc.at hv).2 hp
  rcases h2 with ⟨q1, _⟩ | ⟨q1, rfl, rfl, q2⟩
  · exact absurd hat q1
  · refine ⟨C', F', rfl, Lib.hid ⟨?_, hc.clear q2, (Chg.of_below hb).then h3, low h4⟩⟩
    have := cnt_clear hv hp
    rw [← this] at h1
    have e : ((cnt9 (fun x => P x && !(x == v)) + 1 : Nat) : Int) - 1 = (cnt9 (fun x => P x && !(x == v)) : Nat) := by omega
    rw [e] at h1
    exact h1
theorem ch_find (h : HG w0 W p false (cnt9 P : Nat) k C F) (hc : Cont C P N) (hk : k ≤ 900) (r : Nat) (hr : r < 10) :
    Calls Try.prog 11 #[.pointer (some ⟨p, 0, none⟩), .slice (some ⟨W.heap.size, 0, none⟩) 1 1] (W.alloc (numO (r : Nat))) fun e w' => ∃ (A : Option Addr) (cp : Nat), e = .returned (.slice A (wantL P N r 256).length cp) ∧
      Hid (RowIn intC 1 w' A (wantL P N r 256) ∧ Below W.heap.size W w') := by
  have hb : Below W.heap.size W (W.alloc (numO (r : Nat))) := (by repeat (first | (with_reducible exact Below.refl _ _) | (with_reducible refine Below.drew ?_) | (with_reducible refine Below.alloc ?_ (by simp [more_size]; try omega) _) | (with_reducible refine Below.setCell ?_ (by simp [more_size]; try omega) _) | (with_reducible refine below_more ?_ _ (by simp [more_size]; try omega))))
  refine (hg_find (key := numL (r : Nat)) (h.below hb) (by omega) _ 1 (numL_ok _ (by omega)) (by simp [numL]) (numIn10 _ W)).mono ?_
  rintro e w' ⟨v, ids, rfl, hX⟩
  obtain ⟨h1, h2, h3, h4, h5⟩ := hX.out
  have e : ids = wantL P N r 256 := rise_eq _ _ h2 (wantL_rise _ _ _ _) (fun i => by
    rw [h4, hc, wantL_mem]
    constructor
    · rintro ⟨x, q1, q2, q3, q4⟩
      have := numL_inj q4
      exact ⟨x, q1, q2, by omega, q3⟩
    · rintro ⟨x, q1, q2, q3, q4⟩
      exact ⟨x, q1, q2, q4, by rw [q3]⟩)
  subst e
  obtain ⟨A, cp, rfl⟩ := own_form9 h1
  have e1 : w'.ownsRow (W.alloc (numO (r : Nat))).heap.size 2 1 (.slice A (wantL P N r 256).length cp) (wantL P N r 256).length (rowC intC (wantL P N r 256)) := by rw [rowC_int]; exact h1
  obtain ⟨A9, c9, e9, _, _, _, q9⟩ := rowIn_own (c := intC) (s := 1) (fun _ => rfl) rfl e1
  injection e9 with e9
  subst e9
  exact ⟨A, cp, rfl, Lib.hid ⟨q9, hb.trans (h5.mono hb.size)⟩⟩
theorem ch_all (h : HG w0 W p false 0 k C F) (hc : Cont C P N) (hp : ∀ v, v < 256 → P v = false) : Gives Try.prog 20 #[.pointer (some ⟨p, 0, none⟩)] W (.slice none 0 0) := by
  obtain ⟨⟨M, D, h1⟩, _, _, g⟩ := h
  have : C = [] := by
    cases C with
    | nil => rfl
    | cons c C =>
      obtain ⟨i, hi⟩ := List.exists_mem_of_ne_nil _ (g.ne c (by simp))
      obtain ⟨v, q1, q2, _⟩ := (hc c.key i).1 ⟨c, by simp, rfl, hi⟩
      rw [hp v q1] at q2; cases q2
  subst this
  exact (hall_nil h1).mono fun e w' ⟨a, b⟩ => ⟨a, more_of_below b⟩
end
end Go.Proofs.Ytijegkiapbmekaa
