/- Package hashidx: an index with one more chain. -/
import Derived.Test.YtijegkiapbmekaaHget
set_option maxRecDepth 100000
set_option linter.unusedVariables false
set_option linter.unusedSimpArgs false
namespace Go.Proofs.Ytijegkiapbmekaa
open Go.RowKit
open Go.Maps (has size Keyed int_keyed keyOf_int_mk)
theorem tag_ne {w : World} {a b : Nat} {c1 c2 : Array Value} {t1 t2 : TypeId} {f1 f2 : Nat × Nat} (h1 : w.heap[a]? = some (.cells c1 t1 f1)) (h2 : w.heap[b]? = some (.cells c2 t2 f2)) (ht : t1 ≠ t2) : a ≠ b := fun e => by
  subst e; rw [h1] at h2; injection h2 with h2; injection h2 with _ h2; exact ht h2
theorem own_tag {w : World} {base : Nat} {e : TypeId} {s n : Nat} {v : Value} {xs : List Value} (h : w.ownsRow base e s v n xs) {k : Nat} (hk : v.ownBlock = some k) : ∃ cs f, w.heap[k]? = some (.cells cs e f) := by
  rcases h.2 with ⟨rfl, _⟩ | ⟨g, cap, cur, rfl, _, hgg, _⟩
  · simp [Value.ownBlock] at hk
  · simp [Value.ownBlock] at hk; subst hk; exact ⟨cur, _, hgg⟩
theorem map_tag {w : World} {P : Program} {k : TypeId} {R : Value → Option (DataW Value × List MemPlace)} {b n : Nat} {D : DataW Value} (h : w.ownsMap P k R b n D) {a : Nat} {cs : Array Value} {t : TypeId} {f : Nat × Nat} (ha : w.heap[a]? = some (.cells cs t f)) : a ≠ b := fun e => by
  obtain ⟨es, c, hb, _⟩ := h
  subst e; rw [ha] at hb; cases hb
theorem idsS_nil {c : Chn} (h1 : c.iA = none) (h2 : c.ic = 0) (h3 : c.ids = []) : idsS c = .slice none 0 0 := by unfold idsS; rw [h1, h2, h3]; rfl
section
variable {w w' W4 W6 W7 : World} {F Y : Nat → Prop} {p M : Nat} {D : DataW Value} {u : Bool} {n : Int} {C : List Chn} {key : List Val}
theorem ChM.sameT {c : Chn} {F' : Nat → Prop} (h : ChM w F c) (hs : w.heap.size ≤ w'.heap.size) (hF : ∀ k, F k → F' k) (hb : ∀ k cs t f, F k → t ≠ 62 → w.heap[k]? = some (.cells cs t f) → w'.heap[k]? = w.heap[k]?) : ChM w' F' c :=
  ⟨(hb c.b _ _ _ h.bF (by decide) h.box).trans h.box, h.klen, h.kok, h.kv.same hs (fun x e => by obtain ⟨cs, q⟩ := h.kT x e; exact hb _ _ _ _ (h.kF x e) (by decide) q), fun x e => hF _ (h.kF x e), fun x e => by obtain ⟨cs, q⟩ := h.kT x e; exact ⟨cs, (hb _ _ _ _ (h.kF x e) (by decide) q).trans q⟩, own_same h.ids (fun k e => by obtain ⟨cs, f, q⟩ := own_tag h.ids e; exact hb k _ _ _ (h.iF k e) (by decide) q), fun k e => hF _ (h.iF k e), hF _ h.bF, h.kN⟩
theorem ofH_append (C : List Chn) (c : Chn) (h : Nat) : ofH (C ++ [c]) h = if hashV c.key = h then ofH C h ++ [c] else ofH C h := by
  unfold ofH
  rw [List.filter_append]
  by_cases e : hashV c.key = h
  · rw [if_pos e]; simp [e]
  · rw [if_neg e]; simp [e]
theorem atH_put {hk h : Nat} (hD : Maps.IsMap D) (v' v : Value) (hlt : hk < 18446744073709551616) (hl : h < 18446744073709551616) : atH (D.put (.int .u64 hk) (.held v')) h v ↔ (h = hk ∧ v = v') ∨ (h ≠ hk ∧ atH D h v) := by
  unfold atH
  by_cases e : h = hk
  · subst e
    rw [Maps.atKey_put_same hD (by first | exact trivial | simp [WideAt.IsKeyLit])]
    constructor
    · intro q; injection q with q; exact .inl ⟨rfl, q.symm⟩
    · rintro (⟨_, rfl⟩ | ⟨c, _⟩)
      · rfl
      · exact absurd rfl c
  · rw [Maps.atKey_put_other (fun c => e (by injection c with _ c; omega))]
    constructor
    · intro q; exact .inr ⟨e, q⟩
    · rintro (⟨c, _⟩ | ⟨_, q⟩)
      · exact absurd c e
      · exact q
theorem HM.add (h : HM W4 F p M D u n C) {b0 : Nat} (hF0 : ∀ k, F k → k < b0) (hb4 : b0 ≤ W4.heap.size) (c' : Chn) (hcb : Blk W4 c'.b #[.slice c'.kA c'.key.length c'.kc, idsS c'] 66) (hcb0 : b0 ≤ c'.b)
    (hi1 : c'.iA = none) (hi2 : c'.ic = 0) (hi3 : c'.ids = []) (klen : c'.key.length ≤ 1000) (kok : allOk c'.key) (kv : ValsIn W4 c'.kA c'.key) (kF : ∀ x, c'.kA = some x → b0 ≤ x.block ∧ x.block < W4.heap.size) (kT : ∀ x, c'.kA = some x → ∃ cs, Blk W4 x.block cs 32) (kN : c'.kA = none → c'.kc = 0 ∧ c'.key.length = 0) (hno : ∀ c ∈ C, c.key ≠ c'.key)
    {v0 v' : Value} (hv0 : atH D (hashV c'.key) v0) (own' : W6.ownsRow 0 62 1 v' ((ofH C (hashV c'.key)).length + 1) ((ofH C (hashV c'.key)).map chnP ++ [chnP c']))
    (hk6 : ∀ k, k < W4.heap.size → v0.ownBlock ≠ some k → W6.heap[k]? = W4.heap[k]?) (hz6 : W4.heap.size ≤ W6.heap.size) (loc : v'.ownBlock = v0.ownBlock ∨ ∃ g, v'.ownBlock = some g ∧ W4.heap.size ≤ g)
    (map7 : W7.ownsMap Try.prog 26 heldE M (size (D.put (.int .u64 (hashV c'.key : Nat)) (.held v'))) (D.put (.int .u64 (hashV c'.key : Nat)) (.held v'))) (map6 : W6.ownsMap Try.prog 26 heldE M (size D) D) (hk7 : ∀ k, k < W6.heap.size → k ≠ M → W7.heap[k]? = W6.heap[k]?) (hz7 : W6.heap.size ≤ W7.heap.size) :
    HM W7 (fun k => F k ∨ (b0 ≤ k ∧ k < W7.heap.size)) p M (D.put (.int .u64 (hashV c'.key : Nat)) (.held v')) u n (C ++ [c']) := by
  have hIs : Maps.IsMap D := h.mp.isMap
  have hhk := hashV_lt c'.key
  have hof1 : ofH (C ++ [c']) (hashV c'.key) = ofH C (hashV c'.key) ++ [c'] := by rw [ofH_append, if_pos rfl]
  have hof2 : ∀ h2, h2 ≠ hashV c'.key → ofH (C ++ [c']) h2 = ofH C h2 := fun h2 e => by rw [ofH_append, if_neg (fun q => e q.symm)]
  generalize hkeq : hashV c'.key = hk at *
  obtain ⟨w0, e0, own0, f0⟩ := h.rows hk hhk
  have : w0 = v0 := by unfold atH at e0 hv0; rw [e0] at hv0; injection hv0
  subst this
  -- what is not a row of pointers is as it was
  have keep : ∀ k cs t f, k < W4.heap.size → t ≠ 62 → W4.heap[k]? = some (.cells cs t f) → W7.heap[k]? = W4.heap[k]? := fun k cs t f hk hne hc => by
    have h1 : W6.heap[k]? = W4.heap[k]? := hk6 k hk (fun c => by
      obtain ⟨cs2, f2, q⟩ := own_tag own0 c
      exact tag_ne hc q hne rfl)
    exact (hk7 k (by omega) (map_tag map6 (h1.trans hc))).trans h1
  have F4 : ∀ k, F k → k < W4.heap.size := fun k hk => by have := hF0 k hk; omega
  have oth : ∀ h2, h2 < 18446744073709551616 → h2 ≠ hk → ∀ v, atH D h2 v → ∀ k, v.ownBlock = some k → F k → (∃ cs f, W4.heap[k]? = some (.cells cs 62 f)) → W7.heap[k]? = W4.heap[k]? := fun h2 hl hne v hv k e fk ⟨cs, f, q⟩ => by
    have h1 : W6.heap[k]? = W4.heap[k]? := hk6 k (F4 k fk) (fun c => hne (h.apart h2 hk v w0 k hl hhk hv e0 e c))
    exact (hk7 k (by have := F4 k fk; omega) (map_tag map6 (h1.trans q))).trans h1
  have own7 : W7.ownsRow 0 62 1 v' ((ofH C hk).length + 1) ((ofH C hk).map chnP ++ [chnP c']) := own_same own' (fun k e => by
    obtain ⟨cs, f, q⟩ := own_tag own' e
    exact hk7 k (own_lt9 own' k e) (map_tag map6 q))
  have hz : W4.heap.size ≤ W7.heap.size := Nat.le_trans hz6 hz7
  refine ⟨(keep p _ _ _ (F4 p h.pF) (by decide) h.box).trans h.box, map7, ?_, ?_, ?_, ?_, ?_, ?_, ?_, .inl h.pF, .inl h.mF, ?_⟩
  · intro h2 hl
    by_cases e : h2 = hk
    · subst e
      refine ⟨v', (atH_put hIs v' v' hhk hl).2 (.inl ⟨rfl, rfl⟩), ?_, fun k ek => ?_⟩
      · rw [hof1, List.map_append, List.length_append]; exact own7
      · have hlt := own_lt9 own7 k ek
        rcases loc with q | ⟨g, q, hg⟩
        · exact .inl (f0 k (q ▸ ek))
        · rw [q] at ek; injection ek with ek; subst ek; exact .inr ⟨by omega, hlt⟩
    · obtain ⟨v, q1, q2, q3⟩ := h.rows h2 hl
      refine ⟨v, (atH_put hIs v' v hhk hl).2 (.inr ⟨e, q1⟩), ?_, fun k ek => .inl (q3 k ek)⟩
      have : ofH (C ++ [c']) h2 = ofH C h2 := hof2 h2 e
      rw [this]
      exact own_same q2 (fun k ek => oth h2 hl e v q1 k ek (q3 k ek) (own_tag q2 ek))
  · intro h1 h2 v1 v2 k l1 l2 a1 a2 e1 e2
    rcases (atH_put hIs v' v1 hhk l1).1 a1 with ⟨r1, s1⟩ | ⟨r1, s1⟩ <;> rcases (atH_put hIs v' v2 hhk l2).1 a2 with ⟨r2, s2⟩ | ⟨r2, s2⟩
    · rw [r1, r2]
    · subst s1
      obtain ⟨v3, q1, q2, q3⟩ := h.rows h2 l2
      have : v3 = v2 := by unfold atH at q1 s2; rw [q1] at s2; injection s2
      subst this
      rcases loc with q | ⟨g, q, hg⟩
      · rw [q] at e1
        rw [r1]; exact h.apart hk h2 w0 v3 k hhk l2 e0 s2 e1 e2
      · rw [q] at e1; injection e1 with e1; subst e1
        have := F4 g (q3 g e2); omega
    · subst s2
      obtain ⟨v3, q1, q2, q3⟩ := h.rows h1 l1
      have : v3 = v1 := by unfold atH at q1 s1; rw [q1] at s1; injection s1
      subst this
      rcases loc with q | ⟨g, q, hg⟩
      · rw [q] at e2
        rw [r2]; exact h.apart h1 hk v3 w0 k l1 hhk s1 e0 e1 e2
      · rw [q] at e2; injection e2 with e2; subst e2
        have := F4 g (q3 g e1); omega
    · exact h.apart h1 h2 v1 v2 k l1 l2 s1 s2 e1 e2
  · intro c hc
    rcases List.mem_append.1 hc with q | q
    · exact (h.each c q).sameT hz (fun k hk => .inl hk) (fun k cs t f fk hne hcc => keep k cs t f (F4 k fk) hne hcc)
    · simp at q; subst q
      have cbl := hcb.lt
      refine ⟨(keep _ _ _ _ cbl (by decide) hcb).trans hcb, klen, kok, kv.same hz (fun x e => by obtain ⟨cs, q⟩ := kT x e; exact keep _ _ _ _ (kF x e).2 (by decide) q), fun x e => .inr ⟨(kF x e).1, by have := (kF x e).2; omega⟩, fun x e => by obtain ⟨cs, q⟩ := kT x e; exact ⟨cs, (keep _ _ _ _ (kF x e).2 (by decide) q).trans q⟩, ?_, fun k e => ?_, .inr ⟨hcb0, by omega⟩, kN⟩
      · rw [idsS_nil hi1 hi2 hi3, hi3]; exact World.ownsRow_nil _ _ _ _
      · rw [idsS_nil hi1 hi2 hi3] at e; simp [Value.ownBlock] at e
  · rw [List.pairwise_append]
    exact ⟨h.keys, List.pairwise_singleton _ _, fun a ha b hb => by simp at hb; subst hb; exact hno a ha⟩
  · rw [List.pairwise_append]
    exact ⟨h.boxes, List.pairwise_singleton _ _, fun a ha b hb => by simp at hb; subst hb; have := hF0 _ (h.each a ha).bF; omega⟩
  · rw [List.pairwise_append]
    refine ⟨h.idsA, List.pairwise_singleton _ _, fun a ha b hb k e => ?_⟩
    simp at hb; subst hb
    rw [idsS_nil hi1 hi2 hi3]
    simp [Value.ownBlock]
  · intro kl hq
    by_cases e : kl = .int .u64 ((hk : Nat) : Int)
    · exact ⟨c', by simp, e.trans (by rw [hkeq])⟩
    · rw [Go.Maps.has_put_other e] at hq
      obtain ⟨c, hc, e2⟩ := h.dsz kl hq
      exact ⟨c, by simp [hc], e2⟩
  · rintro k (q | ⟨_, q⟩)
    · have := F4 k q; omega
    · exact q
/-- the last chain gets its rows -/
theorem HM.ids_set {c : Chn} {F' : Nat → Prop} (h : HM w F p M D u n (C ++ [c])) {iA : Option Addr} {ic : Nat} {ids : List Int} (hs : w.heap.size ≤ w'.heap.size) (hk : ∀ k, F k → w'.heap[k]? = w.heap[k]?) (own : w'.ownsRow w.heap.size 2 1 (.slice iA ids.length ic) ids.length (ids.map idI)) (hF : ∀ k, F' k ↔ F k ∨ (w.heap.size ≤ k ∧ k < w'.heap.size)) :
    HM (w'.setCell ⟨c.b, 1, none⟩ (.slice iA ids.length ic)) F' p M D u n (C ++ [⟨c.b, c.kA, c.kc, c.key, iA, ic, ids⟩]) := by
  have hc := h.each c (by simp)
  have hkb : ∀ k, k ≠ c.b → (w'.setCell ⟨c.b, 1, none⟩ (.slice iA ids.length ic)).heap[k]? = w'.heap[k]? := fun k hk => Below.heap_setCell w' _ _ k hk
  have hzs : (w'.setCell ⟨c.b, 1, none⟩ (.slice iA ids.length ic)).heap.size = w'.heap.size := by simp [World.setCell]
  have keep : ∀ k, F k → k ≠ c.b → (w'.setCell ⟨c.b, 1, none⟩ (.slice iA ids.length ic)).heap[k]? = w.heap[k]? := fun k fk hn => (hkb k hn).trans (hk k fk)
  have cb2 : Blk w' c.b #[.slice c.kA c.key.length c.kc, idsS c] 66 := (hk _ hc.bF).trans hc.box
  have tag : ∀ k cs t f, F k → t ≠ 66 → w.heap[k]? = some (.cells cs t f) → k ≠ c.b := fun k cs t f fk ht hq => tag_ne hq hc.box ht
  have hof : ∀ x, ofH (C ++ [(⟨c.b, c.kA, c.kc, c.key, iA, ic, ids⟩ : Chn)]) x = if hashV c.key = x then ofH C x ++ [(⟨c.b, c.kA, c.kc, c.key, iA, ic, ids⟩ : Chn)] else ofH C x := fun x => ofH_append C ⟨c.b, c.kA, c.kc, c.key, iA, ic, ids⟩ x
  have hne : ∀ a ∈ C, a.b ≠ c.b := fun a ha => (List.pairwise_append.1 h.boxes).2.2 a ha c (by simp)
  refine ⟨(keep p h.pF (tag p _ _ _ h.pF (by decide) h.box)).trans h.box, map_same h.mp (keep M h.mF (fun e => map_tag h.mp hc.box e.symm)), ?_, h.apart, ?_, ?_, ?_, ?_, (fun kl hq => by obtain ⟨a, ha, e⟩ := h.dsz kl hq; exact (List.mem_append.1 ha).elim (fun q => ⟨a, by simp [q], e⟩) (fun q => ⟨⟨c.b, c.kA, c.kc, c.key, iA, ic, ids⟩, by simp, by simp at q; subst q; exact e⟩)), (hF _).2 (.inl h.pF), (hF _).2 (.inl h.mF), fun k hk => ?_⟩
  · intro x hx
    obtain ⟨v, q1, q2, q3⟩ := h.rows x hx
    refine ⟨v, q1, ?_, fun k e => (hF k).2 (.inl (q3 k e))⟩
    have e1 : (ofH (C ++ [(⟨c.b, c.kA, c.kc, c.key, iA, ic, ids⟩ : Chn)]) x).map chnP = (ofH (C ++ [c]) x).map chnP := by
      rw [hof, ofH_append]
      by_cases e : hashV c.key = x
      · rw [if_pos e, if_pos e]; simp
      · rw [if_neg e, if_neg e]
    have e2 : (ofH (C ++ [(⟨c.b, c.kA, c.kc, c.key, iA, ic, ids⟩ : Chn)]) x).length = (ofH (C ++ [c]) x).length := by simpa using congrArg List.length e1
    rw [e1, e2]
    exact own_same q2 (fun k e => by obtain ⟨cs, f, q⟩ := own_tag q2 e; exact keep k (q3 k e) (tag k _ _ _ (q3 k e) (by decide) q))
  · intro a ha
    rcases List.mem_append.1 ha with q | q
    · have hA := h.each a (List.mem_append.2 (.inl q))
      refine ⟨(keep _ hA.bF (hne a q)).trans hA.box, hA.klen, hA.kok, hA.kv.same (by rw [hzs]; exact hs) (fun x e => by obtain ⟨cs, z⟩ := hA.kT x e; exact keep _ (hA.kF x e) (tag _ _ _ _ (hA.kF x e) (by decide) z)), fun x e => (hF _).2 (.inl (hA.kF x e)), fun x e => by obtain ⟨cs, z⟩ := hA.kT x e; exact ⟨cs, (keep _ (hA.kF x e) (tag _ _ _ _ (hA.kF x e) (by decide) z)).trans z⟩, own_same hA.ids (fun k e => by obtain ⟨cs, f, z⟩ := own_tag hA.ids e; exact keep k (hA.iF k e) (tag k _ _ _ (hA.iF k e) (by decide) z)), fun k e => (hF _).2 (.inl (hA.iF k e)), (hF _).2 (.inl hA.bF), hA.kN⟩
    · simp at q; subst q
      refine ⟨cb2.set 1 _, hc.klen, hc.kok, hc.kv.same (by rw [hzs]; exact hs) (fun x e => by obtain ⟨cs, z⟩ := hc.kT x e; exact keep _ (hc.kF x e) (tag _ _ _ _ (hc.kF x e) (by decide) z)), fun x e => (hF _).2 (.inl (hc.kF x e)), fun x e => by obtain ⟨cs, z⟩ := hc.kT x e; exact ⟨cs, (keep _ (hc.kF x e) (tag _ _ _ _ (hc.kF x e) (by decide) z)).trans z⟩, own_same (own_lower own (Nat.zero_le _)) (fun k e => hkb k (by have := own_ge own k e; have := hc.box.lt; omega)), fun k e => (hF _).2 (.inr ⟨own_ge own k e, own_lt9 own k e⟩), (hF _).2 (.inl hc.bF), hc.kN⟩
  · have := h.keys
    rw [List.pairwise_append] at this ⊢
    exact ⟨this.1, List.pairwise_singleton _ _, fun a ha b hb => by simp at hb; subst hb; exact this.2.2 a ha c (by simp)⟩
  · have := h.boxes
    rw [List.pairwise_append] at this ⊢
    exact ⟨this.1, List.pairwise_singleton _ _, fun a ha b hb => by simp at hb; subst hb; exact this.2.2 a ha c (by simp)⟩
  · have := h.idsA
    rw [List.pairwise_append] at this ⊢
    refine ⟨this.1, List.pairwise_singleton _ _, fun a ha b hb k e e2 => ?_⟩
    simp at hb; subst hb
    have h1 := own_ge own k e2
    have h2 := h.Flt k ((h.each a (List.mem_append.2 (.inl ha))).iF k e)
    omega
  · rw [hzs]
    rcases (hF k).1 hk with q | ⟨_, q⟩
    · exact Nat.lt_of_lt_of_le (h.Flt k q) hs
    · exact q
/-- the count -/
theorem HM.count (h : HM w F p M D u n C) (n' : Int) : HM (w.setCell ⟨p, 2, none⟩ (.int .i64 n')) F p M D u n' C := by
  have hkb : ∀ k, k ≠ p → (w.setCell ⟨p, 2, none⟩ (.int .i64 n')).heap[k]? = w.heap[k]? := fun k hk => Below.heap_setCell w _ _ k hk
  have tag : ∀ (k : Nat) (cs : Array Value) (t : TypeId) (f : Nat × Nat), t ≠ 61 → w.heap[k]? = some (Obj.cells cs t f) → (w.setCell ⟨p, 2, none⟩ (.int .i64 n')).heap[k]? = w.heap[k]? := fun k cs t f ht hq => hkb k (tag_ne hq h.box ht)
  have hz : w.heap.size ≤ (w.setCell ⟨p, 2, none⟩ (.int .i64 n')).heap.size := by simp [World.setCell]
  refine ⟨h.box.set 2 _, map_same h.mp (hkb M (fun e => map_tag h.mp h.box e.symm)), fun x hx => ?_, h.apart, fun c hc => ?_, h.keys, h.boxes, h.idsA, h.dsz, h.pF, h.mF, fun k hk => Nat.lt_of_lt_of_le (h.Flt k hk) hz⟩
  · obtain ⟨v, q1, q2, q3⟩ := h.rows x hx
    exact ⟨v, q1, own_same q2 (fun k e => by obtain ⟨cs, f, z⟩ := own_tag q2 e; exact tag k _ _ _ (by decide) z), q3⟩
  · have hC := h.each c hc
    exact ⟨(tag _ _ _ _ (by decide) hC.box).trans hC.box, hC.klen, hC.kok, hC.kv.same hz (fun x e => by obtain ⟨cs, z⟩ := hC.kT x e; exact tag _ _ _ _ (by decide) z), hC.kF, fun x e => by obtain ⟨cs, z⟩ := hC.kT x e; exact ⟨cs, (tag _ _ _ _ (by decide) z).trans z⟩, own_same hC.ids (fun k e => by obtain ⟨cs, f, z⟩ := own_tag hC.ids e; exact tag k _ _ _ (by decide) z), hC.iF, hC.bF, hC.kN⟩
end
end Go.Proofs.Ytijegkiapbmekaa
