/- For every input the Go function rialto/rialtolaw1.BitsLeast returns true and each argument reads afterwards as before; no condition. -/
import Derived.Test.YtdnhldmdjbalgaaRows
import Derived.WalkKit
import Derived.ProofKit
import Derived.OpenShut
import Derived.ShutString
import Derived.ChangeOld
import Derived.Below
import Derived.Test.YtdnhldmdjbalgaaLeast
namespace Go.Proofs.Ytdnhldmdjbalgaa.bitsLeast
open Go.ChangeShapes Go.WideShapes Go.ChangeAt Go.RowKit
open Go.ChangeMaps (open_string shut_string)
set_option linter.unusedVariables false

theorem own : ownKnob Try.prog.godebug = none := by kernel_rfl
theorem laidOut : laidOutB Try.prog = true := by kernel_rfl

def IsRow (k : IntKind) (w : World) (a : Option Addr) (len cap : Nat) (zs : List Int) : Prop :=
  (a = none ∧ len = 0 ∧ cap = 0 ∧ zs = []) ∨
  ∃ x, a = some x ∧ len ≤ cap ∧ cap ≤ maxLen ∧ zs.length = cap ∧ (∀ i, i < zs.length → w.cell? (x.add i) = some (.int k (zs.getD i 0))) ∧ ∀ n ∈ zs, (Lit.int k n).wf = true

theorem walk (a0 : Option Addr) (len0 cap0 : Nat) (z0 : List Int) (w : World) (w0 : IsRow .u64 w a0 len0 cap0 z0) :
    Calls Try.prog 10 #[.slice a0 len0 cap0] w fun e w' => e = .returned (.bool true) ∧ Below w.heap.size w w' := by
  have L : ∀ {e : Ending} {w' : World}, e = .returned (.bool true) ∧ w = w' → e = .returned (.bool true) ∧ Below w.heap.size w w' := fun ⟨he, hw⟩ => ⟨he, hw ▸ Below.refl _ _⟩
  rcases w0 with ⟨rfl, rfl, rfl, rfl⟩ | ⟨x, rfl, hl, hm, hz, hcell, hwz⟩
  · exact (walk_least_zero none 0 w).mono fun e w' h => L h
  · by_cases h0 : len0 = 0
    · subst h0
      exact (walk_least_zero _ _ w).mono fun e w' h => L h
    by_cases h2 : 200 < len0
    · exact (walk_least_many _ _ _ w h2).mono fun e w' h => L h
    obtain ⟨b, off, rfl, hc⟩ := ints_at hcell (by omega)
    have hcs := hc 0 (by omega)
    have hzw : ∀ j, j < z0.length → 0 ≤ z0.getD j 0 ∧ z0.getD j 0 < 18446744073709551616 := by
      intro j hj
      have e : z0.getD j 0 = z0[j] := by rw [List.getD_eq_getElem?_getD, List.getElem?_eq_getElem hj]; rfl
      obtain ⟨n, h1, h2⟩ := u64_nat (hwz _ (List.getElem_mem hj))
      rw [e]; omega
    have hg : ∀ j, ((z0.take len0).map Int.toNat).getD j 0 = if j < len0 then (z0.getD j 0).toNat else 0 := by
      intro j
      rw [List.getD_eq_getElem?_getD, List.getElem?_map]
      split
      · rename_i h
        rw [List.getElem?_take_of_lt h, List.getD_eq_getElem?_getD, List.getElem?_eq_getElem (by omega)]; rfl
      · rename_i h
        rw [List.getElem?_eq_none (by rw [List.length_take]; omega)]; rfl
    exact walk_least_some b off len0 cap0 ((z0.take len0).map Int.toNat) w (cell_lt hcs) (by omega) (by omega) hl (by unfold maxLen at hm; exact hm)
      (fun j hj => by rw [hc j (by omega), hg j, if_pos hj, Int.toNat_of_nonneg (hzw j (by omega)).1])
      (fun j => by rw [hg j]; by_cases hj : j < len0; (rw [if_pos hj]; have := hzw j (by omega); omega); (rw [if_neg hj]; decide)) (by rw [List.length_map, List.length_take]; omega)


set_option maxRecDepth 100000 in
theorem lifted (os : Os) (started : os.Started) (H : Type) (enc : TypeId × Value → H) :
    ReturnsInHanded {} Try.checked os 10 .any (Rows.bitsLeastSpec.pre6 enc Try.prog Try.f10 Rows.bitsLeastRow.domain false) (Rows.bitsLeastSpec.post enc Try.prog Try.f10 false true false false) := by
  refine returnsInHanded_of_change (C := Try.checked) own started (by kernel_rfl) Try.func10
    (ChangeSpec.witness6 (enc := enc) (C := Try.checked) false ⟨#[], #[.slice none 0 0], []⟩ 8 (by kernel_rfl) (by kernel_rfl) (by kernel_rfl) (by kernel_rfl)) ?_
  intro W base args ds gs before hval0 hW hcnd _
  have hval : ∀ (j : Nat) t v, Try.f10.params[j]? = some t → args[j]? = some v → Value.okWide Try.prog W .any base t v := hval0
  have hW' := hW
  obtain ⟨p, q, hA0, hV, rfl, hfz, hnd⟩ := hW
  have hA : DataW.TrodAll enc Try.prog W 0 (fun _ => true) true Try.f10.params.toList args.toList ds p := hA0
  rw [Try.params10] at hA hval
  obtain ⟨v0, vs0, d0, ds0, p0, q0, hargs, rfl, rfl, h0, r0⟩ := trodAll_cons hA
  obtain ⟨rfl, rfl, rfl⟩ := trodAll_nil r0
  obtain rfl : args = #[v0] := by cases args; simp_all
  obtain ⟨rfl, rfl⟩ := trodVars_none hV
  obtain ⟨a0, len0, cap0, rfl⟩ := okWide_slice Try.underlying43 (hval 0 43 v0 rfl rfl)
  have k0 := h0
  have lt0 : ∀ x ∈ p0, x.block < W.heap.size := by obtain ⟨m, hm⟩ := k0; exact DataW.trod_lt m _ _ _ hm
  obtain ⟨z0, w0⟩ : ∃ zs, IsRow .u64 W a0 len0 cap0 zs := by
    obtain ⟨fuel, hf⟩ := h0
    rcases open_ints Try.underlying43 Try.underlying22 (by kernel_rfl) hf with ⟨hcs, _⟩ | ⟨x, l, c, zs, hcs, _, hl, hm, hz, _, hcell, hwz⟩
    · simp [Value.cells] at hcs
      obtain ⟨rfl, rfl, rfl⟩ := hcs
      exact ⟨[], .inl ⟨rfl, rfl, rfl, rfl⟩⟩
    · simp [Value.cells] at hcs
      obtain ⟨rfl, rfl, rfl⟩ := hcs
      exact ⟨zs, .inr ⟨_, rfl, hl, hm, by simpa using hz, hcell, hwz⟩⟩
  clear hA0 hval0
  refine (walk a0 len0 cap0 z0 W w0).mono fun e W' ⟨he, bel⟩ => ?_
  subst he
  exact ⟨_, rfl, _, _, _, [], _, [], hW', trodAll_mk1 (shut_bool Try.underlying4 _), (trodAll_cons_mk (Below.trod laidOut (by kernel_rfl) (of_decide_eq_true (by kernel_rfl)) k0 bel lt0) trodAll_mk0), rfl, bel.frame _, fun h => by cases h⟩

theorem over : Rows.bitsLeastRow.holds Try.pinned (OpenSpec.ofChange Rows.bitsLeastSpec) :=
  OpenClaim.holds_of_wide 10 Try.f10 rfl rfl rfl rfl rfl rfl rfl ⟨rfl, rfl, rfl, rfl, rfl⟩ rfl rfl rfl rfl rfl (by kernel_rfl) Try.func10 (by kernel_rfl)
    (of_decide_eq_true (by kernel_rfl)) (by unfold Func.isWrapper; first | (rw [if_pos (by decide +kernel)]; kernel_rfl) | (rw [if_neg (by decide +kernel)]; exact ⟨rfl, rfl⟩))
    (fun os started H enc _ => lifted os started H enc)

theorem proved : Rows.BitsLeastSaid := over
#print axioms proved
end Go.Proofs.Ytdnhldmdjbalgaa.bitsLeast
