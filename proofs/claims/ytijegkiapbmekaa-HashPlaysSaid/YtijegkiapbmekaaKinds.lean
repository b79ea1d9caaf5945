/- ValueKinds: values of unlike kinds stand by their kinds. -/
import Derived.Test.YtijegkiapbmekaaKnown2
import Derived.Test.YtijegkiapbmekaaOpen
set_option maxRecDepth 100000
set_option linter.unusedVariables false
set_option linter.unusedSimpArgs false
namespace Go.Proofs.Ytijegkiapbmekaa
open Go.RowKit
attribute [local go_sem] run_frombits run_tobits more_more more_drew more_drewN more_size more_cell more_frozen run_store_float lt_c1 le_c1 lt_s1 le_s1 lt_c2 le_c2 lt_s2 le_s2 lt_c3 le_c3 lt_s3 le_s3 lt_c4 le_c4 lt_s4 le_s4 lt_c5 le_c5 lt_s5 le_s5 lt_c6 le_c6 lt_s6 le_s6 lt_c7 le_c7 lt_s7 le_s7 lt_c8 le_c8 lt_s8 le_s8 lt_c9 le_c9 lt_s9 le_s9 lt_c10 le_c10 lt_s10 le_s10 lt_c11 le_c11 lt_s11 le_s11 lt_c12 le_c12 lt_s12 le_s12 le_c0 run_cmpstring

theorem kinds_fact {a b : Val} (h : a.k ≠ b.k) : (cmpV a b == -1) = decide (a.k < b.k) ∧ (cmpV a b == 0) = false := by
  unfold cmpV orI cmpI
  rcases Int.lt_trichotomy a.k b.k with h1 | h1 | h1
  · simp [h1]
  · exact absurd h1 h
  · simp [h1, show ¬ a.k < b.k by omega]
theorem valAt_lit {W : World} {c : Array Value} {t : TypeId} {a : Val} {g : Nat} (hg : g = W.heap.size) (o : Nat) (h0 : c[o]? = some (.int .i64 a.k)) (h1 : c[o + 1]? = some (.int .i64 a.i)) (h2 : c[o + 2]? = some (.string a.s)) (h3 : c[o + 3]? = some (.float .f64 a.f)) :
    ValAt (W.alloc (.cells c t)) g o a :=
  ⟨(World.cell?_alloc_at _ _ _ _ hg).trans h0, (World.cell?_alloc_at _ _ _ _ hg).trans h1, (World.cell?_alloc_at _ _ _ _ hg).trans h2, (World.cell?_alloc_at _ _ _ _ hg).trans h3⟩
theorem valsIn_two {W : World} {t : TypeId} (a b : Val) {g : Nat} (hg : g = W.heap.size) :
    ValsIn (W.alloc (.cells #[.int .i64 a.k, .int .i64 a.i, .string a.s, .float .f64 a.f, .int .i64 b.k, .int .i64 b.i, .string b.s, .float .f64 b.f] t)) (some ⟨g, 0, none⟩) [a, b] := by
  intro j hj
  refine ⟨_, _, rfl, by simp [hg], ?_⟩
  intro i hi
  match i, hi with
  | 0, _ => exact valAt_lit hg _ rfl rfl rfl rfl
  | 1, _ => exact valAt_lit hg _ rfl rfl rfl rfl
theorem valsIn_one {W : World} {t : TypeId} (a : Val) {g : Nat} (hg : g = W.heap.size) :
    ValsIn (W.alloc (.cells #[.int .i64 a.k, .int .i64 a.i, .string a.s, .float .f64 a.f] t)) (some ⟨g, 0, none⟩) [a] := by
  intro j hj
  refine ⟨_, _, rfl, by simp [hg], ?_⟩
  intro i hi
  match i, hi with
  | 0, _ => exact valAt_lit hg _ rfl rfl rfl rfl

section
variable {W : World} {t : TypeId} {g : Nat} {k0 i0 k1 i1 k2 i2 : Int} {s0 s1 s2 : ByteArray} {f0 f1 f2 : Nat}
theorem valsIn1 (hg : g = W.heap.size) : ValsIn (W.alloc (.cells #[.int .i64 k0, .int .i64 i0, .string s0, .float .f64 f0] t)) (some ⟨g, 0, none⟩) [⟨k0, i0, s0, f0⟩] := valsIn_one ⟨k0, i0, s0, f0⟩ hg
theorem valsIn2 (hg : g = W.heap.size) : ValsIn (W.alloc (.cells #[.int .i64 k0, .int .i64 i0, .string s0, .float .f64 f0, .int .i64 k1, .int .i64 i1, .string s1, .float .f64 f1] t)) (some ⟨g, 0, none⟩) [⟨k0, i0, s0, f0⟩, ⟨k1, i1, s1, f1⟩] := valsIn_two ⟨k0, i0, s0, f0⟩ ⟨k1, i1, s1, f1⟩ hg
theorem valsIn3 (hg : g = W.heap.size) : ValsIn (W.alloc (.cells #[.int .i64 k0, .int .i64 i0, .string s0, .float .f64 f0, .int .i64 k1, .int .i64 i1, .string s1, .float .f64 f1, .int .i64 k2, .int .i64 i2, .string s2, .float .f64 f2] t)) (some ⟨g, 0, none⟩) [⟨k0, i0, s0, f0⟩, ⟨k1, i1, s1, f1⟩, ⟨k2, i2, s2, f2⟩] := by
  intro j hj
  refine ⟨_, _, rfl, by simp [hg], ?_⟩
  intro i hi
  match i, hi with
  | 0, _ => exact valAt_lit hg _ rfl rfl rfl rfl
  | 1, _ => exact valAt_lit hg _ rfl rfl rfl rfl
  | 2, _ => exact valAt_lit hg _ rfl rfl rfl rfl
end

end Go.Proofs.Ytijegkiapbmekaa
