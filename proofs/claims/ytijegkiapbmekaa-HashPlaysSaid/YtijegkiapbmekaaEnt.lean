/- Package hashidx: entries as they lie in a row. -/
import Derived.Test.YtijegkiapbmekaaHown
import Derived.Test.YtijegkiapbmekaaApp
set_option maxRecDepth 100000
set_option linter.unusedVariables false
set_option linter.unusedSimpArgs false
namespace Go.Proofs.Ytijegkiapbmekaa
open Go.RowKit
open Go.Maps (has size Keyed int_keyed keyOf_int_mk)
attribute [local go_sem] run_frombits run_tobits more_more more_drew more_drewN more_size more_cell more_frozen run_store_float lt_c1 le_c1 lt_s1 le_s1 lt_c2 le_c2 lt_s2 le_s2 lt_c3 le_c3 lt_s3 le_s3 lt_c4 le_c4 lt_s4 le_s4 lt_c5 le_c5 lt_s5 le_s5 lt_c6 le_c6 lt_s6 le_s6 lt_c7 le_c7 lt_s7 le_s7 lt_c8 le_c8 lt_s8 le_s8 lt_c9 le_c9 lt_s9 le_s9 lt_c10 le_c10 lt_s10 le_s10 lt_c11 le_c11 lt_s11 le_s11 lt_c12 le_c12 lt_s12 le_s12 le_c0
/-- an entry as it lies in a row -/
structure Ent where
  kA : Option Addr
  kc : Nat
  key : List Val
  id : Int
def entC (q : Ent) : List Value := [.slice q.kA q.key.length q.kc, .int .i64 q.id]
theorem entC_len (q : Ent) : (entC q).length = 2 := rfl
def entP (q : Ent) : List Val × Int := (q.key, q.id)
/-- a row of entries that a call has made -/
structure EntsOk (w : World) (base : Nat) (A : Option Addr) (c : Nat) (Q : List Ent) : Prop where
  own : w.ownsRow base 56 2 (.slice A Q.length c) Q.length (rowC entC Q)
  keys : ∀ q ∈ Q, ValsIn w q.kA q.key ∧ (∀ x, q.kA = some x → ∃ cs, Blk w x.block cs 32) ∧ (q.kA = none → q.kc = 0 ∧ q.key.length = 0)
/-- the entries of chains, chain by chain -/
def entsOf (S : List Chn) : List (List Val × Int) := S.flatMap (fun c => c.ids.map (fun i => (c.key, i)))
theorem entsOf_take (S : List Chn) {t : Nat} (h : t < S.length) : entsOf (S.take (t + 1)) = entsOf (S.take t) ++ S[t].ids.map (fun i => (S[t].key, i)) := by
  unfold entsOf
  rw [List.take_succ_eq_append_getElem h, List.flatMap_append]
  simp
theorem info_ent : (Try.prog.info? 56).map (fun i => (i.zero, i.size, i.bytes)) = some (some (.agg #[.slice none 0 0, .int .i64 0]), 2, 32) := by kernel_rfl
theorem EntsOk.below {w w' : World} {base : Nat} {A : Option Addr} {c : Nat} {Q : List Ent} (h : EntsOk w base A c Q) (hb : Below w.heap.size w w') : EntsOk w' base A c Q :=
  ⟨own_same h.own (fun g hg => hb.block g (own_lt9 h.own g hg)), fun q hq => by
    obtain ⟨h1, h2, h3⟩ := h.keys q hq
    exact ⟨h1.below hb, fun x e => by obtain ⟨cs, k⟩ := h2 x e; exact ⟨cs, (hb.block _ k.lt).trans k⟩, h3⟩⟩
theorem EntsOk.push {w w' : World} {base : Nat} {A A2 : Option Addr} {c c2 : Nat} {Q : List Ent} {q : Ent} (h : EntsOk w base A c Q) (own : w'.ownsRow base 56 2 (.slice A2 (Q.length + 1) c2) (Q.length + 1) (rowC entC Q ++ entC q)) (hg : w.grownBy w' (Value.slice A Q.length c).ownBlock)
    (hq : ValsIn w q.kA q.key ∧ (∀ x, q.kA = some x → ∃ cs, Blk w x.block cs 32) ∧ (q.kA = none → q.kc = 0 ∧ q.key.length = 0)) : EntsOk w' base A2 c2 (Q ++ [q]) := by
  have step : ∀ q : Ent, (ValsIn w q.kA q.key ∧ (∀ x, q.kA = some x → ∃ cs, Blk w x.block cs 32) ∧ (q.kA = none → q.kc = 0 ∧ q.key.length = 0)) → (ValsIn w' q.kA q.key ∧ (∀ x, q.kA = some x → ∃ cs, Blk w' x.block cs 32) ∧ (q.kA = none → q.kc = 0 ∧ q.key.length = 0)) := fun q ⟨h1, h2, h3⟩ => by
    have hb : ∀ x, q.kA = some x → w'.heap[x.block]? = w.heap[x.block]? := fun x e => by
      obtain ⟨cs, k⟩ := h2 x e
      refine hg.block _ k.lt (fun e2 => ?_)
      obtain ⟨cs2, f2, k2⟩ := own_tag h.own e2.symm
      exact tag_ne k k2 (by decide) rfl
    exact ⟨h1.same hg.size hb, fun x e => by obtain ⟨cs, k⟩ := h2 x e; exact ⟨cs, (hb x e).trans k⟩, h3⟩
  refine ⟨?_, fun r hr => ?_⟩
  · rw [List.length_append, List.length_singleton, rowC_append, rowC_single]; exact own
  · rcases List.mem_append.1 hr with k | k
    · exact step r (h.keys r k)
    · simp at k; subst k; exact step r hq
theorem EntsOk.nil (w : World) (base : Nat) : EntsOk w base none 0 [] := ⟨World.ownsRow_nil _ _ _ _, (fun q hq => by cases hq)⟩
end Go.Proofs.Ytijegkiapbmekaa
