/- Package hashidx: what an index answers, by the pairs that it holds. -/
import Derived.Test.YtijegkiapbmekaaHinm
import Derived.Test.YtijegkiapbmekaaHeraL
import Derived.Test.YtijegkiapbmekaaHknown
set_option maxRecDepth 100000
set_option linter.unusedVariables false
set_option linter.unusedSimpArgs false
namespace Go.Proofs.Ytijegkiapbmekaa
open Go.RowKit
open Go.Maps (has size Keyed int_keyed keyOf_int_mk)
attribute [local go_sem] run_frombits run_tobits more_more more_drew more_drewN more_size more_cell more_frozen run_store_float lt_c1 le_c1 lt_s1 le_s1 lt_c2 le_c2 lt_s2 le_s2 lt_c3 le_c3 lt_s3 le_s3 lt_c4 le_c4 lt_s4 le_s4 lt_c5 le_c5 lt_s5 le_s5 lt_c6 le_c6 lt_s6 le_s6 lt_c7 le_c7 lt_s7 le_s7 lt_c8 le_c8 lt_s8 le_s8 lt_c9 le_c9 lt_s9 le_s9 lt_c10 le_c10 lt_s10 le_s10 lt_c11 le_c11 lt_s11 le_s11 lt_c12 le_c12 lt_s12 le_s12 le_c0
/-- a row stands with a key -/
def Mem (C : List Chn) (key : List Val) (id : Int) : Prop := ∃ c ∈ C, c.key = key ∧ id ∈ c.ids
structure Good (k : Nat) (C : List Chn) : Prop where
  len : C.length ≤ k
  srt : ∀ c ∈ C, c.ids.Pairwise (· < ·)
  ne : ∀ c ∈ C, c.ids ≠ []
  le : ∀ c ∈ C, c.ids.length ≤ k
theorem Good.mono {k k' : Nat} {C : List Chn} (h : Good k C) (hk : k ≤ k') : Good k' C := ⟨Nat.le_trans h.len hk, h.srt, h.ne, fun c hc => Nat.le_trans (h.le c hc) hk⟩
theorem Good.nil : Good 0 [] := ⟨Nat.le_refl _, (fun c hc => by cases hc), (fun c hc => by cases hc), (fun c hc => by cases hc)⟩
section
variable {w w' : World} {F Y : Nat → Prop} {p M : Nat} {D : DataW Value} {u : Bool} {n : Int} {C : List Chn} {key : List Val}
theorem mem_chain (h : HM w F p M D u n C) {c : Chn} (hc : c ∈ C) {id : Int} : Mem C c.key id ↔ id ∈ c.ids := by
  constructor
  · rintro ⟨a, ha, e, hi⟩
    rw [h.same_key ha hc e] at hi; exact hi
  · intro hi; exact ⟨c, hc, rfl, hi⟩
theorem mem_none (hno : ∀ c ∈ C, c.key ≠ key) (id : Int) : ¬ Mem C key id := by
  rintro ⟨a, ha, e, _⟩; exact hno a ha e
theorem mem_upd (h : HM w F p M D u n C) {c : Chn} (hc : c ∈ C) {iA : Option Addr} {ic : Nat} {ids : List Int} {k : List Val} {i : Int} : Mem (C.map (updC c.b iA ic ids)) k i ↔ (k = c.key ∧ i ∈ ids) ∨ (k ≠ c.key ∧ Mem C k i) := by
  constructor
  · rintro ⟨a', ha', e, hi⟩
    obtain ⟨a, ha, rfl⟩ := List.mem_map.1 ha'
    by_cases q : a.b = c.b
    · have := h.same_box ha hc q
      subst this
      rw [updC_same rfl] at hi e
      exact .inl ⟨e.symm, hi⟩
    · rw [updC_other q] at hi e
      refine .inr ⟨fun e2 => q ?_, a, ha, e, hi⟩
      rw [h.same_key ha hc (e.trans e2)]
  · rintro (⟨rfl, hi⟩ | ⟨hne, a, ha, e, hi⟩)
    · exact ⟨updC c.b iA ic ids c, List.mem_map.2 ⟨c, hc, rfl⟩, rfl, by rw [updC_same rfl]; exact hi⟩
    · have q : a.b ≠ c.b := fun q => hne (by rw [← e, h.same_box ha hc q])
      exact ⟨a, List.mem_map.2 ⟨a, ha, updC_other q⟩, e, hi⟩
theorem mem_gone (h : HM w F p M D u n C) {c : Chn} (hc : c ∈ C) {k : List Val} {i : Int} : Mem (C.filter (fun a => !(a.b == c.b))) k i ↔ k ≠ c.key ∧ Mem C k i := by
  constructor
  · rintro ⟨a, ha, e, hi⟩
    have h1 := List.mem_filter.1 ha
    refine ⟨fun e2 => ?_, a, h1.1, e, hi⟩
    have := h.same_key h1.1 hc (e.trans e2)
    subst this
    simp at h1
  · rintro ⟨hne, a, ha, e, hi⟩
    refine ⟨a, List.mem_filter.2 ⟨ha, ?_⟩, e, hi⟩
    simp only [Bool.not_eq_true', beq_eq_false_iff_ne]
    exact fun q => hne (by rw [← e, h.same_box ha hc q])
theorem good_upd {k : Nat} (g : Good k C) {b : Nat} {iA : Option Addr} {ic : Nat} {ids : List Int} (h1 : ids.Pairwise (· < ·)) (h2 : ids ≠ []) (h3 : ids.length ≤ k + 1) : Good (k + 1) (C.map (updC b iA ic ids)) := by
  refine ⟨by simpa using Nat.le_trans g.len (Nat.le_succ _), fun c' hc' => ?_, fun c' hc' => ?_, fun c' hc' => ?_⟩ <;>
  · obtain ⟨c, hc, rfl⟩ := List.mem_map.1 hc'
    by_cases q : c.b = b
    · rw [updC_same q]; first | exact h1 | exact h2 | exact h3
    · rw [updC_other q]; first | exact g.srt c hc | exact g.ne c hc | exact Nat.le_trans (g.le c hc) (Nat.le_succ _)
theorem good_del {k : Nat} (g : Good k C) {b : Nat} {iA : Option Addr} {ic : Nat} {ids : List Int} (h1 : ids.Pairwise (· < ·)) (h2 : ids ≠ []) (h3 : ids.length ≤ k) : Good k (C.map (updC b iA ic ids)) := by
  refine ⟨by simpa using g.len, fun c' hc' => ?_, fun c' hc' => ?_, fun c' hc' => ?_⟩ <;>
  · obtain ⟨c, hc, rfl⟩ := List.mem_map.1 hc'
    by_cases q : c.b = b
    · rw [updC_same q]; first | exact h1 | exact h2 | exact h3
    · rw [updC_other q]; first | exact g.srt c hc | exact g.ne c hc | exact g.le c hc
theorem good_gone {k : Nat} (g : Good k C) (f : Chn → Bool) : Good k (C.filter f) :=
  ⟨Nat.le_trans (List.length_filter_le _ _) g.len, fun c hc => g.srt c (List.mem_filter.1 hc).1, fun c hc => g.ne c (List.mem_filter.1 hc).1, fun c hc => g.le c (List.mem_filter.1 hc).1⟩
theorem mem_without {ids : List Int} {id i : Int} : i ∈ without ids id ↔ i ∈ ids ∧ i ≠ id := by
  simp [without, List.mem_filter]
/-- is there a chain of a key? -/
theorem chain_of (C : List Chn) (key : List Val) : (∃ c ∈ C, c.key = key) ∨ (∀ c ∈ C, c.key ≠ key) := by
  by_cases h : ∃ c ∈ C, c.key = key
  · exact .inl h
  · exact .inr (fun c hc e => h ⟨c, hc, e⟩)
set_option maxHeartbeats 1000000 in
theorem hfind_no (h : HM w F p M D u n C) (A : Option Addr) (ca : Nat) (hok : allOk key) (lk : key.length ≤ 1000) (ha : ValsIn w A key) (hno : ∀ c ∈ C, c.key ≠ key) :
    Gives Try.prog 11 #[.pointer (some ⟨p, 0, none⟩), .slice A key.length ca] w (.slice none 0 0) := by
  have FD := Lib.hid (find_any h A ca hok lk ha)
  rw [fnd_no h hok hno] at FD
  clear h ha hok hno
  go_enter Try.func11, Try.ntmps11
  go_wp2_with fail
  refine FD.out.mono' ?_; intro x
  go_wp2
  go_ret
  exact ⟨rfl, (more_of_below (by repeat (first | (with_reducible exact Below.refl _ _) | (with_reducible refine Below.drew ?_) | (with_reducible refine Below.alloc ?_ (by simp [more_size]; try omega) _) | (with_reducible refine Below.setCell ?_ (by simp [more_size]; try omega) _) | (with_reducible refine below_more ?_ _ (by simp [more_size]; try omega)))))⟩
set_option maxHeartbeats 1000000 in
theorem hera_none (h : HM w F p M D u n C) (A : Option Addr) (ca : Nat) (hok : allOk key) (lk : key.length ≤ 1000) (ha : ValsIn w A key) (hno : ∀ c ∈ C, c.key ≠ key) (id : Int) :
    Calls Try.prog 18 #[.pointer (some ⟨p, 0, none⟩), .slice A key.length ca, .int .i64 id] w fun e w' => e = .returned (.int .i64 71) ∧ Below w.heap.size w w' := by
  have FD := Lib.hid (fun W (hB : Below w.heap.size w W) => find_any (h.below hB) A ca hok lk (ha.below hB))
  have fe := fnd_no h hok hno
  rw [fe] at FD
  clear h ha hok fe hno
  go_enter Try.func18, Try.ntmps18
  go_wp2_with fail
  refine calls_at (R := fun W => Below w.heap.size w W ∧ Blk W w.heap.size #[.int .i64 id] 2) ⟨(by repeat (first | (with_reducible exact Below.refl _ _) | (with_reducible refine Below.drew ?_) | (with_reducible refine Below.alloc ?_ (by simp [more_size]; try omega) _) | (with_reducible refine Below.setCell ?_ (by simp [more_size]; try omega) _) | (with_reducible refine below_more ?_ _ (by simp [more_size]; try omega)))), Blk.new _ _ _ rfl⟩ ?_
  rintro W ⟨hB, hib⟩
  refine (FD.out W hB).mono' ?_; intro x
  have hB2 := hB.trans ((more_below W x).mono hB.size)
  replace hB2 := Lib.hid hB2
  clear hB hib
  generalize more W x = W2 at *
  clear FD
  go_upto_region 2 with fail
  obtain ⟨bq, hbq⟩ : ∃ bq, bq = W2.heap.size := ⟨_, rfl⟩
  refine wp_named9 (R := fun V => Blk V bq #[.pointer none] 62 ∧ Below W2.heap.size W2 V) ⟨Blk.new _ _ _ hbq, (by repeat (first | (with_reducible exact Below.refl _ _) | (with_reducible refine Below.drew ?_) | (with_reducible refine Below.alloc ?_ (by simp [more_size]; try omega) _) | (with_reducible refine Below.setCell ?_ (by simp [more_size]; try omega) _) | (with_reducible refine below_more ?_ _ (by simp [more_size]; try omega))))⟩ ?_
  rintro V ⟨hbV, hV⟩
  have c3 : V.cell? ⟨bq, 0, none⟩ = some (.pointer none) := hbV.cell 0
  have l3 := hbV.lt
  rw [← hbq]
  have hB3 := Lib.hid (fun y => hB2.out.trans ((hV.trans ((more_below V y).mono hV.size)).mono hB2.out.size))
  clear hV hbV hbq
  refine wp_region_more (by kernel_rfl) (by kernel_rfl) ?_
  repeat (go_big_quiet_step (fail))
  refine wpQuiet_nil ?_
  rintro _ ⟨z, rfl⟩
  go_wp2
  go_ret
  exact ⟨rfl, hB3.out z⟩
theorem hlen (h : HM w F p M D u n C) : Calls Try.prog 19 #[.pointer (some ⟨p, 0, none⟩)] w fun e w' => e = .returned (.int .i64 n) ∧ w = w' := by
  have c1 : w.cell? ⟨p, 2, none⟩ = some (.int .i64 n) := h.box.cell 2
  clear h
  go_enter Try.func19, Try.ntmps19
  go_wp2
  go_ret
  exact ⟨rfl, rfl⟩
end
/-! what a statement sees of its own index -/
section
variable {w0 W w : World} {F : Nat → Prop} {p : Nat} {u : Bool} {n : Int} {C : List Chn} {key : List Val}
/-- an index with at most k changes behind it, in the blocks F -/
structure HG (w0 w : World) (p : Nat) (u : Bool) (n : Int) (k : Nat) (C : List Chn) (F : Nat → Prop) : Prop where
  hm : ∃ M D, HM w F p M D u n C
  bel : Below w0.heap.size w0 w
  low : ∀ k, F k → w0.heap.size ≤ k
  good : Good k C
theorem HG.below {k : Nat} {w' : World} (h : HG w0 w p u n k C F) (hb : Below w.heap.size w w') : HG w0 w' p u n k C F := by
  obtain ⟨M, D, h1⟩ := h.hm
  exact ⟨⟨M, D, h1.below hb⟩, h.bel.trans (hb.mono h.bel.size), h.low, h.good⟩
theorem HG.beside {k : Nat} {w' : World} {Y : Nat → Prop} (h : HG w0 w p u n k C F) (hc : Chg Y w w') (hY : ∀ k, F k → ¬ Y k) (hl : ∀ k, Y k → w0.heap.size ≤ k) : HG w0 w' p u n k C F := by
  obtain ⟨M, D, h1⟩ := h.hm
  exact ⟨⟨M, D, h1.beside hc hY⟩, h.bel.trans (hc.below hl h.bel.size), h.low, h.good⟩
theorem HG.lt {k : Nat} (h : HG w0 w p u n k C F) : ∀ j, F j → j < w.heap.size := by obtain ⟨M, D, h1⟩ := h.hm; exact h1.Flt
theorem hg_new (u : Bool) (hb : Below w0.heap.size w0 w) : Calls Try.prog 8 #[.bool u] w fun e w' => ∃ p F, e = .returned (.pointer (some ⟨p, 0, none⟩)) ∧ Hid (HG w0 w' p u 0 0 [] F ∧ Below w.heap.size w w') :=
  (hnew_any u w).mono fun e w' ⟨p, M, F, h1, h2, h3, h4⟩ => ⟨p, F, h1, Lib.hid ⟨⟨⟨M, _, h2⟩, hb.trans (h3.mono hb.size), fun k hk => Nat.le_trans hb.size (h4 k hk), Good.nil⟩, h3⟩⟩
theorem hg_find {k : Nat} (h : HG w0 w p u n k C F) (hk : k ≤ 1000) (A : Option Addr) (ca : Nat) (hok : allOk key) (lk : key.length ≤ 1000) (ha : ValsIn w A key) :
    Calls Try.prog 11 #[.pointer (some ⟨p, 0, none⟩), .slice A key.length ca] w fun e w' => ∃ (v : Value) (ids : List Int), e = .returned v ∧ Hid (w'.ownsRow w.heap.size 2 1 v ids.length (ids.map idI) ∧ ids.Pairwise (· < ·) ∧ ids.length ≤ k ∧ (∀ i, i ∈ ids ↔ Mem C key i) ∧ Below w.heap.size w w') := by
  obtain ⟨⟨M, D, h1⟩, h2, h3, g⟩ := h
  rcases chain_of C key with ⟨c, hc, rfl⟩ | hno
  · have hl := g.le c hc
    refine (hfind_yes h1 A ca hok lk ha hc rfl (by omega)).mono ?_
    rintro e w' ⟨v, rfl, own, hB⟩
    exact ⟨v, c.ids, rfl, Lib.hid ⟨own, g.srt c hc, hl, fun i => (mem_chain h1 hc).symm, hB⟩⟩
  · refine (hfind_no h1 A ca hok lk ha hno).mono' ?_
    intro x
    exact ⟨_, [], rfl, Lib.hid ⟨World.ownsRow_nil _ _ _ _, List.Pairwise.nil, Nat.zero_le _, fun i => ⟨(fun q => by cases q), (fun q => absurd q (mem_none hno i))⟩, more_below w x⟩⟩
theorem hg_has {k : Nat} (h : HG w0 w p u n k C F) (hk : k ≤ 1000) (A : Option Addr) (ca : Nat) (hok : allOk key) (lk : key.length ≤ 1000) (ha : ValsIn w A key) (id : Int) (r : Bool) (hr : r = true ↔ Mem C key id) :
    Gives Try.prog 15 #[.pointer (some ⟨p, 0, none⟩), .slice A key.length ca, .int .i64 id] w (.bool r) := by
  obtain ⟨⟨M, D, h1⟩, h2, h3, g⟩ := h
  rcases chain_of C key with ⟨c, hc, rfl⟩ | hno
  · have hl := g.le c hc
    have := has_yes h1 A ca hok lk ha hc rfl (by omega) id
    have e : decide (id ∈ c.ids) = r := by
      rw [Bool.eq_iff_iff, hr, mem_chain h1 hc, decide_eq_true_iff]
    rwa [e] at this
  · have := has_no h1 A ca hok lk ha hno id
    have e : r = false := by
      cases r with
      | false => rfl
      | true => exact absurd (hr.1 rfl) (mem_none hno id)
    rw [e]; exact this
theorem hg_len {k : Nat} (h : HG w0 w p u n k C F) : Calls Try.prog 19 #[.pointer (some ⟨p, 0, none⟩)] w fun e w' => e = .returned (.int .i64 n) ∧ w = w' := by
  obtain ⟨⟨M, D, h1⟩, h2, h3, g⟩ := h
  exact hlen h1
/-- what Insert answers -/
def Ins9 (u : Bool) (n : Int) (C : List Chn) (key : List Val) (id er : Int) (n' : Int) (C' : List Chn) : Prop :=
  (Mem C key id ∧ er = 72 ∧ C' = C ∧ n' = n) ∨ (¬ Mem C key id ∧ u = true ∧ (∃ i, Mem C key i) ∧ er = 80 ∧ C' = C ∧ n' = n) ∨ (¬ Mem C key id ∧ (u = true → ∀ i, ¬ Mem C key i) ∧ er = 0 ∧ n' = n + 1 ∧ ∀ k' i, Mem C' k' i ↔ Mem C k' i ∨ (k' = key ∧ i = id))
theorem hg_insert {k : Nat} (h : HG w0 w p u n k C F) (hk : k ≤ 900) (hn : 0 ≤ n ∧ n ≤ 900) (A : Option Addr) (ca : Nat) (hok : allOk key) (lk : key.length ≤ 1000) (hA : A = none → ca = 0 ∧ key.length = 0) (ha : ValsIn w A key) (id : Int) :
    Calls Try.prog 9 #[.pointer (some ⟨p, 0, none⟩), .slice A key.length ca, .int .i64 id] w fun e w' => ∃ (er n' : Int) (C' : List Chn) (F' : Nat → Prop), e = .returned (.int .i64 er) ∧ Hid (HG w0 w' p u n' (k + 1) C' F' ∧ Ins9 u n C key id er n' C' ∧ Chg F w w' ∧ Grew w F F') := by
  obtain ⟨⟨M, D, h1⟩, h2, h3, g⟩ := h
  have low : ∀ {w' : World} {F' : Nat → Prop}, Grew w F F' → ∀ k, F' k → w0.heap.size ≤ k := fun hG k hk => (hG.2 k hk).elim (h3 k) (fun q => Nat.le_trans h2.size q)
  rcases chain_of C key with ⟨c, hc, rfl⟩ | hno
  · have hl := g.le c hc
    by_cases hid : id ∈ c.ids
    · refine (hins_there h1 A ca hok lk ha hc rfl (by omega) id hid).mono' ?_
      intro x
      exact ⟨72, n, C, F, rfl, Lib.hid ⟨⟨⟨M, D, h1.below (more_below w x)⟩, h2.trans ((more_below w x).mono h2.size), h3, g.mono (by omega)⟩, .inl ⟨(mem_chain h1 hc).2 hid, rfl, rfl, rfl⟩, Chg.more x, Grew.refl⟩⟩
    · have hm : ¬ Mem C c.key id := fun q => hid ((mem_chain h1 hc).1 q)
      cases u with
      | true =>
        refine (hins_dup h1 A ca hok lk ha hc rfl (by omega) id hid).mono' ?_
        intro x
        obtain ⟨i, hi⟩ := List.exists_mem_of_ne_nil _ (g.ne c hc)
        exact ⟨80, n, C, F, rfl, Lib.hid ⟨⟨⟨M, D, h1.below (more_below w x)⟩, h2.trans ((more_below w x).mono h2.size), h3, g.mono (by omega)⟩, .inr (.inl ⟨hm, rfl, ⟨i, (mem_chain h1 hc).2 hi⟩, rfl, rfl, rfl⟩), Chg.more x, Grew.refl⟩⟩
      | false =>
        refine (hins_more h1 A ca hok lk ha hc rfl (by omega) (g.srt c hc) id hid (by omega)).mono ?_
        rintro e w' ⟨rfl, iA, ic, i, F', hpl, h4, hC, hG⟩
        refine ⟨0, n + 1, _, F', rfl, Lib.hid ⟨⟨⟨M, D, h4⟩, h2.trans (hC.below h3 h2.size), low (w' := w') hG, good_upd g (hpl.insert (g.srt c hc) hid) (fun e => by have := congrArg List.length e; rw [insAt_length] at this; simp at this) (by rw [insAt_length]; omega)⟩, .inr (.inr ⟨hm, (fun e => by cases e), rfl, rfl, fun k' j => ?_⟩), hC, hG⟩⟩
        rw [mem_upd h1 hc, Place.insAt_mem]
        constructor
        · rintro (⟨rfl, rfl | q⟩ | ⟨_, q⟩)
          · exact .inr ⟨rfl, rfl⟩
          · exact .inl ((mem_chain h1 hc).2 q)
          · exact .inl q
        · rintro (q | ⟨rfl, rfl⟩)
          · by_cases e : k' = c.key
            · subst e; exact .inl ⟨rfl, .inr ((mem_chain h1 hc).1 q)⟩
            · exact .inr ⟨e, q⟩
          · exact .inl ⟨rfl, .inl rfl⟩
  · have gl := g.len
    refine (hins_new h1 A ca hok lk hA ha hno id (by omega) (by omega)).mono ?_
    rintro e w' ⟨rfl, c, F', D', hck, hci, h9, hC, hG⟩
    refine ⟨0, n + 1, C ++ [c], F', rfl, Lib.hid ⟨⟨⟨M, D', h9⟩, h2.trans (hC.below h3 h2.size), low (w' := w') hG, by simp; omega, fun a ha => ?_, fun a ha => ?_, fun a ha => ?_⟩, .inr (.inr ⟨mem_none hno id, fun _ i => mem_none hno i, rfl, rfl, fun k' j => ?_⟩), hC, hG⟩⟩
    · rcases List.mem_append.1 ha with q | q
      · exact g.srt a q
      · simp at q; subst q; rw [hci]; exact List.pairwise_singleton _ _
    · rcases List.mem_append.1 ha with q | q
      · exact g.ne a q
      · simp at q; subst q; rw [hci]; exact List.cons_ne_nil _ _
    · rcases List.mem_append.1 ha with q | q
      · exact Nat.le_trans (g.le a q) (Nat.le_succ _)
      · simp at q; subst q; rw [hci]; simp
    · constructor
      · rintro ⟨a, ha, e, hi⟩
        rcases List.mem_append.1 ha with q | q
        · exact .inl ⟨a, q, e, hi⟩
        · simp at q; subst q; rw [hci] at hi; simp at hi
          exact .inr ⟨by rw [← e, hck], hi⟩
      · rintro (⟨a, ha, e, hi⟩ | ⟨rfl, rfl⟩)
        · exact ⟨a, List.mem_append.2 (.inl ha), e, hi⟩
        · exact ⟨c, by simp, hck, by rw [hci]; simp⟩
/-- what Erase answers -/
def Era9 (n : Int) (C : List Chn) (key : List Val) (id er : Int) (n' : Int) (C' : List Chn) : Prop :=
  (¬ Mem C key id ∧ er = 71 ∧ C' = C ∧ n' = n) ∨ (Mem C key id ∧ er = 0 ∧ n' = n - 1 ∧ ∀ k' i, Mem C' k' i ↔ Mem C k' i ∧ ¬ (k' = key ∧ i = id))
theorem hg_erase {k : Nat} (h : HG w0 w p u n k C F) (hk : k ≤ 900) (hn : 0 ≤ n ∧ n ≤ 900) (A : Option Addr) (ca : Nat) (hok : allOk key) (lk : key.length ≤ 1000) (hAF : ∀ x, A = some x → 0 < key.length → ¬ F x.block) (ha : ValsIn w A key) (id : Int) :
    Calls Try.prog 18 #[.pointer (some ⟨p, 0, none⟩), .slice A key.length ca, .int .i64 id] w fun e w' => ∃ (er n' : Int) (C' : List Chn) (F' : Nat → Prop), e = .returned (.int .i64 er) ∧ Hid (HG w0 w' p u n' k C' F' ∧ Era9 n C key id er n' C' ∧ Chg F w w' ∧ Grew w F F') := by
  obtain ⟨⟨M, D, h1⟩, h2, h3, g⟩ := h
  have low : ∀ {w' : World} {F' : Nat → Prop}, Grew w F F' → ∀ k, F' k → w0.heap.size ≤ k := fun hG k hk => (hG.2 k hk).elim (h3 k) (fun q => Nat.le_trans h2.size q)
  have gl := g.len
  rcases chain_of C key with ⟨c, hc, rfl⟩ | hno
  · have hl := g.le c hc
    by_cases hid : id ∈ c.ids
    · have hm := (mem_chain h1 hc).2 hid
      by_cases hR : without c.ids id = []
      · refine (hera_last h1 A ca hok lk ha hc rfl (by omega) id hid (by omega) hR (by omega) hAF).mono ?_
        rintro e w' ⟨rfl, F', D', h4, hC, hG⟩
        refine ⟨0, n - 1, _, F', rfl, Lib.hid ⟨⟨⟨M, D', h4⟩, h2.trans (hC.below h3 h2.size), low (w' := w') hG, good_gone g _⟩, .inr ⟨hm, rfl, rfl, fun k' j => ?_⟩, hC, hG⟩⟩
        rw [mem_gone h1 hc]
        have hall : ∀ j, j ∈ c.ids → j = id := fun j hj => by
          by_cases e : j = id
          · exact e
          · have : j ∈ without c.ids id := mem_without.2 ⟨hj, e⟩
            rw [hR] at this; cases this
        constructor
        · rintro ⟨q1, q2⟩; exact ⟨q2, fun q3 => q1 q3.1⟩
        · rintro ⟨q1, q2⟩
          refine ⟨fun e => q2 ⟨e, ?_⟩, q1⟩
          subst e
          exact hall j ((mem_chain h1 hc).1 q1)
      · refine (hera_some h1 A ca hok lk ha hc rfl (by omega) id hid (by omega) hR).mono ?_
        rintro e w' ⟨rfl, iA, ic, F', h4, hC, hG⟩
        refine ⟨0, n - 1, _, F', rfl, Lib.hid ⟨⟨⟨M, D, h4⟩, h2.trans (hC.below h3 h2.size), low (w' := w') hG, good_del g ((g.srt c hc).filter _) hR (Nat.le_trans (List.length_filter_le _ _) hl)⟩, .inr ⟨hm, rfl, rfl, fun k' j => ?_⟩, hC, hG⟩⟩
        rw [mem_upd h1 hc, mem_without]
        constructor
        · rintro (⟨rfl, q1, q2⟩ | ⟨q1, q2⟩)
          · exact ⟨(mem_chain h1 hc).2 q1, fun q => q2 q.2⟩
          · exact ⟨q2, fun q => q1 q.1⟩
        · rintro ⟨q1, q2⟩
          by_cases e : k' = c.key
          · subst e; exact .inl ⟨rfl, (mem_chain h1 hc).1 q1, fun q => q2 ⟨rfl, q⟩⟩
          · exact .inr ⟨e, q1⟩
    · refine (hera_no h1 A ca hok lk ha hc rfl (by omega) id hid).mono ?_
      rintro e w' ⟨rfl, hb⟩
      exact ⟨71, n, C, F, rfl, Lib.hid ⟨⟨⟨M, D, h1.below hb⟩, h2.trans (hb.mono h2.size), h3, g⟩, .inl ⟨fun q => hid ((mem_chain h1 hc).1 q), rfl, rfl, rfl⟩, Chg.of_below hb, Grew.refl⟩⟩
  · refine (hera_none h1 A ca hok lk ha hno id).mono ?_
    rintro e w' ⟨rfl, hb⟩
    exact ⟨71, n, C, F, rfl, Lib.hid ⟨⟨⟨M, D, h1.below hb⟩, h2.trans (hb.mono h2.size), h3, g⟩, .inl ⟨mem_none hno id, rfl, rfl, rfl⟩, Chg.of_below hb, Grew.refl⟩⟩
/-- two rows that rise and have the same numbers are the same -/
theorem rise_eq : ∀ (l m : List Int), l.Pairwise (· < ·) → m.Pairwise (· < ·) → (∀ i, i ∈ l ↔ i ∈ m) → l = m
  | [], [], _, _, _ => rfl
  | [], b :: m, _, _, h => by have := (h b).2 (by simp); cases this
  | a :: l, [], _, _, h => by have := (h a).1 (by simp); cases this
  | a :: l, b :: m, hl, hm, h => by
    obtain ⟨h1, h2⟩ := List.pairwise_cons.1 hl
    obtain ⟨h3, h4⟩ := List.pairwise_cons.1 hm
    have e : a = b := by
      have ha := (h a).1 (by simp)
      have hb := (h b).2 (by simp)
      rcases List.mem_cons.1 ha with q | q
      · exact q
      · rcases List.mem_cons.1 hb with r | r
        · exact r.symm
        · have := h1 b r; have := h3 a q; omega
    subst e
    rw [rise_eq l m h2 h4 (fun i => ?_)]
    constructor
    · intro q
      have := h1 i q
      rcases List.mem_cons.1 ((h i).1 (by simp [q])) with r | r
      · omega
      · exact r
    · intro q
      have := h3 i q
      rcases List.mem_cons.1 ((h i).2 (by simp [q])) with r | r
      · omega
      · exact r
end
end Go.Proofs.Ytijegkiapbmekaa
