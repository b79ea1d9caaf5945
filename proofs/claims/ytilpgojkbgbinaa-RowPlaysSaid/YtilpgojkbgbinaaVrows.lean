/- value.Rows and what else goes over rows of values. -/
import Derived.Test.YtilpgojkbgbinaaVal
set_option maxRecDepth 100000
set_option linter.unusedVariables false
set_option linter.unusedSimpArgs false
namespace Go.Proofs.Ytilpgojkbgbinaa
open Go.RowKit
attribute [local go_sem] run_frombits run_tobits more_more more_drew more_drewN more_size 

/-- a row of values lies at this place -/
def ValAt (w : World) (b o : Nat) (a : Val) : Prop :=
  w.cell? ⟨b, o, none⟩ = some (.int .i64 a.k) ∧ w.cell? ⟨b, o + 1, none⟩ = some (.int .i64 a.i) ∧ w.cell? ⟨b, o + 2, none⟩ = some (.string a.s) ∧ w.cell? ⟨b, o + 3, none⟩ = some (.float .f64 a.f)
def ValsIn (w : World) (A : Option Addr) (l : List Val) : Prop :=
  ∀ j (h : j < l.length), ∃ b off, A = some ⟨b, off, none⟩ ∧ b < w.heap.size ∧ ∀ j (h : j < l.length), ValAt w b (off + j * 4) l[j]
theorem ValAt.more {w : World} {b o : Nat} {a : Val} (h : ValAt w b o a) (hb : b < w.heap.size) (x : Ext) : ValAt (more w x) b o a :=
  ⟨(more_cell w x _ hb).trans h.1, (more_cell w x _ hb).trans h.2.1, (more_cell w x _ hb).trans h.2.2.1, (more_cell w x _ hb).trans h.2.2.2⟩
theorem ValsIn.more {w : World} {A : Option Addr} {l : List Val} (h : ValsIn w A l) (x : Ext) : ValsIn (more w x) A l := fun j hj => by
  obtain ⟨b, off, e, hb, hc⟩ := h j hj
  exact ⟨b, off, e, by rw [more_size]; omega, fun i hi => (hc i hi).more hb x⟩
theorem ValsIn.below {w w' : World} {A : Option Addr} {l : List Val} (h : ValsIn w A l) (hb : Below w.heap.size w w') : ValsIn w' A l := fun j hj => by
  obtain ⟨b, off, e, hlt, hc⟩ := h j hj
  refine ⟨b, off, e, Nat.lt_of_lt_of_le hlt hb.size, fun i hi => ?_⟩
  obtain ⟨c0, c1, c2, c3⟩ := hc i hi
  exact ⟨(hb.cell (p := ⟨b, _, none⟩) hlt).trans c0, (hb.cell (p := ⟨b, _, none⟩) hlt).trans c1, (hb.cell (p := ⟨b, _, none⟩) hlt).trans c2, (hb.cell (p := ⟨b, _, none⟩) hlt).trans c3⟩
theorem ValsIn.alloc {w : World} {A : Option Addr} {l : List Val} (h : ValsIn w A l) (o : Obj) : ValsIn (w.alloc o) A l := h.below ((Below.refl _ _).alloc (Nat.le_refl _) o)
theorem ValsIn.drew {w : World} {A : Option Addr} {l : List Val} (h : ValsIn w A l) : ValsIn w.drew A l := h
end Go.Proofs.Ytilpgojkbgbinaa
