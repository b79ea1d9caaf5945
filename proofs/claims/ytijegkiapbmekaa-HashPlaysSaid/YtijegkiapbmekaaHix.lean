/- Package hashidx: an index in memory. -/
import Derived.Test.YtijegkiapbmekaaChg
import Derived.Test.YtijegkiapbmekaaHash
import Derived.Test.YtijegkiapbmekaaOrdP
set_option maxRecDepth 100000
set_option linter.unusedVariables false
set_option linter.unusedSimpArgs false
namespace Go.Proofs.Ytijegkiapbmekaa
open Go.RowKit
open Go.Maps (has size Keyed int_keyed keyOf_int_mk)
attribute [local go_sem] run_frombits run_tobits more_more more_drew more_drewN more_size more_cell more_frozen run_store_float lt_c1 le_c1 lt_s1 le_s1 lt_c2 le_c2 lt_s2 le_s2 lt_c3 le_c3 lt_s3 le_s3 lt_c4 le_c4 lt_s4 le_s4 lt_c5 le_c5 lt_s5 le_s5 lt_c6 le_c6 lt_s6 le_s6 lt_c7 le_c7 lt_s7 le_s7 lt_c8 le_c8 lt_s8 le_s8 lt_c9 le_c9 lt_s9 le_s9 lt_c10 le_c10 lt_s10 le_s10 lt_c11 le_c11 lt_s11 le_s11 lt_c12 le_c12 lt_s12 le_s12 le_c0
/-- a chain: its box; its key; its rows -/
structure Chn where
  b : Nat
  kA : Option Addr
  kc : Nat
  key : List Val
  iA : Option Addr
  ic : Nat
  ids : List Int
abbrev chnP (c : Chn) : Value := .pointer (some ⟨c.b, 0, none⟩)
abbrev idsS (c : Chn) : Value := .slice c.iA c.ids.length c.ic
abbrev idI (x : Int) : Value := .int .i64 x
/-- what stands at a hash -/
def atH (D : DataW Value) (h : Nat) (v : Value) : Prop := D.atKey (.int .u64 h) (.held (.slice none 0 0)) = .held v
def ofH (C : List Chn) (h : Nat) : List Chn := C.filter (fun c => hashV c.key == h)
structure ChM (w : World) (F : Nat → Prop) (c : Chn) : Prop where
  box : Blk w c.b #[.slice c.kA c.key.length c.kc, idsS c] 66
  klen : c.key.length ≤ 1000
  kok : allOk c.key
  kv : ValsIn w c.kA c.key
  kF : ∀ x, c.kA = some x → F x.block
  kT : ∀ x, c.kA = some x → ∃ cs, Blk w x.block cs 32
  ids : w.ownsRow 0 2 1 (idsS c) c.ids.length (c.ids.map idI)
  iF : ∀ k, (idsS c).ownBlock = some k → F k
  bF : F c.b
  kN : c.kA = none → c.kc = 0 ∧ c.key.length = 0
/-- an index at p -/
structure HM (w : World) (F : Nat → Prop) (p M : Nat) (D : DataW Value) (u : Bool) (n : Int) (C : List Chn) : Prop where
  box : Blk w p #[.bool u, .map (some M), .int .i64 n] 61
  mp : w.ownsMap Try.prog 26 heldE M (size D) D
  rows : ∀ h : Nat, h < 18446744073709551616 → ∃ v, atH D h v ∧ w.ownsRow 0 62 1 v (ofH C h).length ((ofH C h).map chnP) ∧ ∀ k, v.ownBlock = some k → F k
  apart : ∀ h h' v v' k, h < 18446744073709551616 → h' < 18446744073709551616 → atH D h v → atH D h' v' → v.ownBlock = some k → v'.ownBlock = some k → h = h'
  each : ∀ c ∈ C, ChM w F c
  keys : C.Pairwise (fun a b => a.key ≠ b.key)
  boxes : C.Pairwise (fun a b => a.b ≠ b.b)
  idsA : C.Pairwise (fun a b => ∀ k, (idsS a).ownBlock = some k → (idsS b).ownBlock ≠ some k)
  dsz : ∀ kl, has D kl = true → ∃ c ∈ C, kl = .int .u64 ((hashV c.key : Nat) : Int)
  pF : F p
  mF : F M
  Flt : ∀ k, F k → k < w.heap.size
section
variable {w w' : World} {F Y : Nat → Prop} {p M : Nat} {D : DataW Value} {u : Bool} {n : Int} {C : List Chn}
theorem ChM.same {c : Chn} (h : ChM w F c) (hs : w.heap.size ≤ w'.heap.size) (hb : ∀ k, F k → w'.heap[k]? = w.heap[k]?) : ChM w' F c :=
  ⟨(hb c.b h.bF).trans h.box, h.klen, h.kok, h.kv.same hs (fun x e => hb _ (h.kF x e)), h.kF, fun x e => by obtain ⟨cs, q⟩ := h.kT x e; exact ⟨cs, (hb _ (h.kF x e)).trans q⟩, own_same h.ids (fun k e => hb k (h.iF k e)), h.iF, h.bF, h.kN⟩
theorem HM.same (h : HM w F p M D u n C) (hs : w.heap.size ≤ w'.heap.size) (hb : ∀ k, F k → w'.heap[k]? = w.heap[k]?) : HM w' F p M D u n C :=
  ⟨(hb p h.pF).trans h.box, map_same h.mp (hb M h.mF), fun x hx => by
    obtain ⟨v, q1, q2, q3⟩ := h.rows x hx
    exact ⟨v, q1, own_same q2 (fun k e => hb k (q3 k e)), q3⟩, h.apart, fun c hc => (h.each c hc).same hs hb, h.keys, h.boxes, h.idsA, h.dsz, h.pF, h.mF, fun k hk => Nat.lt_of_lt_of_le (h.Flt k hk) hs⟩
theorem HM.beside (h : HM w F p M D u n C) (hc : Chg Y w w') (hY : ∀ k, F k → ¬ Y k) : HM w' F p M D u n C := h.same hc.size (fun k hk => hc.block k (h.Flt k hk) (hY k hk))
theorem HM.below (h : HM w F p M D u n C) (hb : Below w.heap.size w w') : HM w' F p M D u n C := h.beside (Y := fun _ => False) (Chg.of_below hb) (fun _ _ h => h)
theorem nodup_len9 {α : Type} : ∀ (l m : List α), l.Pairwise (· ≠ ·) → (∀ x ∈ l, x ∈ m) → l.length ≤ m.length
  | [], _, _, _ => Nat.zero_le _
  | x :: l, m, hp, hm => by
    obtain ⟨m1, m2, rfl⟩ := List.append_of_mem (hm x (by simp))
    have hp' := List.pairwise_cons.1 hp
    have := nodup_len9 l (m1 ++ m2) hp'.2 (fun y hy => by
      have h1 := hm y (by simp [hy])
      have h2 := hp'.1 y hy
      simp at h1 ⊢
      rcases h1 with q | q | q
      · exact .inl q
      · exact absurd q.symm h2
      · exact .inr q)
    simp at this ⊢
    omega
theorem HM.size_le (h : HM w F p M D u n C) : size D ≤ C.length := by
  obtain ⟨es, rfl, hp, hk⟩ := h.mp.entries (int_keyed Try.underlying26)
  have := nodup_len9 (es.map Prod.fst) (C.map (fun c => (.int .u64 ((hashV c.key : Nat) : Int) : Lit))) (List.pairwise_map.2 hp) (fun x hx => by
    obtain ⟨q, hq, rfl⟩ := List.mem_map.1 hx
    obtain ⟨c, hc, e⟩ := h.dsz q.1 (by
      rw [Go.Maps.has_eq, List.any_eq_true]
      exact ⟨q, hq, (WideAt.sameKey_self (hk q hq))⟩)
    exact List.mem_map.2 ⟨c, hc, e.symm⟩)
  simpa [Go.Maps.size_eq] using this
end
end Go.Proofs.Ytijegkiapbmekaa
