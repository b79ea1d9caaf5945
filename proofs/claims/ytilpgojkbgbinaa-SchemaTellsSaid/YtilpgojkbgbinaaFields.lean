/- Package schema: fields by name. -/
import Derived.Test.YtilpgojkbgbinaaSchema
set_option maxRecDepth 100000
set_option linter.unusedVariables false
set_option linter.unusedSimpArgs false
namespace Go.Proofs.Ytilpgojkbgbinaa
open Go.RowKit
attribute [local go_sem] run_frombits run_tobits more_more more_drew more_drewN more_size more_cell more_frozen run_store_float lt_c1 le_c1 lt_s1 le_s1 lt_c2 le_c2 lt_s2 le_s2 lt_c3 le_c3 lt_s3 le_s3 lt_c4 le_c4 lt_s4 le_s4 lt_c5 le_c5 lt_s5 le_s5 lt_c6 le_c6 lt_s6 le_s6 lt_c7 le_c7 lt_s7 le_s7 lt_c8 le_c8 lt_s8 le_s8 lt_c9 le_c9 lt_s9 le_s9 lt_c10 le_c10 lt_s10 le_s10 lt_c11 le_c11 lt_s11 le_s11 lt_c12 le_c12 lt_s12 le_s12 le_c0

structure Fld where
  n : ByteArray
  k : Int
def Fld.v (f : Fld) : Value := .agg #[.string f.n, .int .i64 f.k]
def FldAt (w : World) (b o : Nat) (f : Fld) : Prop := w.cell? ⟨b, o, none⟩ = some (.string f.n) ∧ w.cell? ⟨b, o + 1, none⟩ = some (.int .i64 f.k)
def FieldsIn (w : World) (A : Option Addr) (l : List Fld) : Prop :=
  ∀ j (h : j < l.length), ∃ b off, A = some ⟨b, off, none⟩ ∧ b < w.heap.size ∧ ∀ j (h : j < l.length), FldAt w b (off + j * 2) l[j]
theorem FldAt.more {w : World} {b o : Nat} {a : Fld} (h : FldAt w b o a) (hb : b < w.heap.size) (x : Ext) : FldAt (more w x) b o a :=
  ⟨(more_cell w x _ hb).trans h.1, (more_cell w x _ hb).trans h.2⟩
theorem FieldsIn.more {w : World} {A : Option Addr} {l : List Fld} (h : FieldsIn w A l) (x : Ext) : FieldsIn (more w x) A l := fun j hj => by
  obtain ⟨b, off, e, hb, hc⟩ := h j hj
  exact ⟨b, off, e, by rw [more_size]; omega, fun i hi => (hc i hi).more hb x⟩
theorem FieldsIn.below {w w' : World} {A : Option Addr} {l : List Fld} (h : FieldsIn w A l) (hb : Below w.heap.size w w') : FieldsIn w' A l := by
  obtain ⟨x, rfl⟩ := more_of_below hb
  exact h.more x
theorem FieldsIn.alloc {w : World} {A : Option Addr} {l : List Fld} (h : FieldsIn w A l) (o : Obj) : FieldsIn (w.alloc o) A l := h.below ((Below.refl _ _).alloc (Nat.le_refl _) o)
theorem FieldsIn.drew {w : World} {A : Option Addr} {l : List Fld} (h : FieldsIn w A l) : FieldsIn w.drew A l := h

section
variable {W : World} {t : TypeId} {g : Nat}
theorem fldAt_lit {W : World} {c : Array Value} {t : TypeId} {a : Fld} {g : Nat} (hg : g = W.heap.size) (o : Nat) (h0 : c[o]? = some (.string a.n)) (h1 : c[o + 1]? = some (.int .i64 a.k)) :
    FldAt (W.alloc (.cells c t)) g o a :=
  ⟨(World.cell?_alloc_at _ _ _ _ hg).trans h0, (World.cell?_alloc_at _ _ _ _ hg).trans h1⟩
theorem fieldsIn1 {n0 : ByteArray} {k0 : Int} (hg : g = W.heap.size) : FieldsIn (W.alloc (.cells #[.string n0, .int .i64 k0] t)) (some ⟨g, 0, none⟩) [⟨n0, k0⟩] := by
  intro j hj
  refine ⟨_, _, rfl, by simp [hg], ?_⟩
  intro i hi
  match i, hi with
  | 0, _ => exact fldAt_lit hg _ rfl rfl
theorem fieldsIn2 {n0 n1 : ByteArray} {k0 k1 : Int} (hg : g = W.heap.size) : FieldsIn (W.alloc (.cells #[.string n0, .int .i64 k0, .string n1, .int .i64 k1] t)) (some ⟨g, 0, none⟩) [⟨n0, k0⟩, ⟨n1, k1⟩] := by
  intro j hj
  refine ⟨_, _, rfl, by simp [hg], ?_⟩
  intro i hi
  match i, hi with
  | 0, _ => exact fldAt_lit hg _ rfl rfl
  | 1, _ => exact fldAt_lit hg _ rfl rfl
end
/-- the number of the field with this name; -1: there is none -/
def idxF (s : ByteArray) : List Fld → Nat → Int
  | [], _ => -1
  | f :: l, k => if (f.n.toList == s.toList) = true then (k : Int) else idxF s l (k + 1)
set_option maxHeartbeats 1000000 in
theorem index_any (A : Option Addr) (ca g : Nat) (l : List Fld) (s : ByteArray) (w : World) (la : l.length ≤ 9223372036854775807) (hg : g < w.heap.size) (hc : w.cell? ⟨g, 0, none⟩ = some (.string s)) (ha : FieldsIn w A l) :
    Gives Try.prog 71 #[.slice A l.length ca, .func (.func 72) #[] #[.pointer (some ⟨g, 0, none⟩)]] w (.int .i64 (idxF s l 0)) := by
  have HA := Lib.hid ha; clear ha
  replace hc := fun y => (more_cell w y _ hg).trans hc
  go_enter Try.func71, Try.ntmps71
  go_wp2
  go_loopw [8] (fun i wr => ∃ (k : Nat) (x : Ext), k ≤ l.length ∧ i = .int .i64 k ∧ Hid (idxF s (l.drop k) k = idxF s l 0) ∧ more w x = wr) (fun i _ => l.length - (intOf i).toNat)
  case atStart => exact ⟨0, _, by omega, rfl, Lib.hid rfl, more_self w⟩
  case round =>
    obtain ⟨k, x, hk, rfl, hr, rfl⟩ := hrel
    by_cases h1 : k < l.length
    · have h1' : (k : Int) < (l.length : Int) := by omega
      obtain ⟨b, off, rfl, hb, hcb⟩ := HA.out k h1
      obtain ⟨c0, c1⟩ := hcb k h1
      clear hcb
      have C0 := fun y => (more_cell w y _ hb).trans c0
      have C1 := fun y => (more_cell w y _ hb).trans c1
      clear c0 c1
      have HS := Lib.hid (show (if (l[k].n.toList == s.toList) = true then (k : Int) else idxF s (l.drop (k + 1)) (k + 1 : Nat)) = idxF s l 0 by
        rw [← hr.out, List.drop_eq_getElem_cons h1]; rfl)
      generalize l[k] = p at *
      go_wp2
      · have h : (p.n.toList == s.toList) = true := by assumption
        go_ret
        refine ⟨ret_i64 ?_, (more_of_below (by repeat (first | (with_reducible exact Below.refl _ _) | (with_reducible refine Below.drew ?_) | (with_reducible refine Below.alloc ?_ (by simp [more_size]; try omega) _) | (with_reducible refine Below.setCell ?_ (by simp [more_size]; try omega) _) | (with_reducible refine below_more ?_ _ (by simp [more_size]; try omega)))))⟩
        have := HS.out
        rw [if_pos h] at this
        exact this
      · have h : (p.n.toList == s.toList) = false := by assumption
        obtain ⟨x', e⟩ := more_of_below (w := w) (w' := (more w x).alloc (Obj.cells #[Value.string p.n, Value.int IntKind.i64 p.k] 25)) (by repeat (first | (with_reducible exact Below.refl _ _) | (with_reducible refine Below.drew ?_) | (with_reducible refine Below.alloc ?_ (by simp [more_size]; try omega) _) | (with_reducible refine Below.setCell ?_ (by simp [more_size]; try omega) _) | (with_reducible refine below_more ?_ _ (by simp [more_size]; try omega))))
        refine ⟨⟨k + 1, x', by omega, by go_num, Lib.hid ?_, e.symm⟩, by simp [intOf]; omega⟩
        have := HS.out
        rw [if_neg (by rw [h]; decide)] at this
        exact this
    · have h1' : ¬ (k : Int) < (l.length : Int) := by omega
      go_wp2
      go_ret
      refine ⟨ret_i64 ?_, _, rfl⟩
      rw [← hr.out, List.drop_eq_nil_of_le (by omega)]; rfl
theorem idxF_range (s : ByteArray) : ∀ (l : List Fld) (k : Nat), idxF s l k = -1 ∨ ((k : Int) ≤ idxF s l k ∧ idxF s l k < (k : Int) + l.length)
  | [], k => .inl rfl
  | f :: l, k => by
    unfold idxF
    split
    · exact .inr ⟨Int.le_refl _, by simp only [List.length_cons]; omega⟩
    · have := idxF_range s l (k + 1)
      simp only [List.length_cons]
      omega
def fldI (s : ByteArray) (l : List Fld) : Int := max (idxF s l 0) 0
def fldB (s : ByteArray) (l : List Fld) : Bool := decide (0 ≤ idxF s l 0)
set_option maxHeartbeats 1000000 in
theorem field_any (A : Option Addr) (ca : Nat) (l : List Fld) (s : ByteArray) (w : World) (la : l.length ≤ 9223372036854775807) (ha : FieldsIn w A l) :
    Gives Try.prog 18 #[.slice A l.length ca, .string s] w (.tuple #[.int .i64 (fldI s l), .bool (fldB s l)]) := by
  have IX := fun W g h1 h2 h3 => index_any A ca g l s W la h1 h2 h3
  have hr := idxF_range s l 0
  have e1 : fldI s l = max (idxF s l 0) 0 := rfl
  have e2 : fldB s l = decide (0 ≤ idxF s l 0) := rfl
  rw [e1, e2]
  generalize idxF s l 0 = i at *
  have HA := Lib.hid ha; clear ha
  replace IX := Lib.hid IX
  rcases hr with rfl | ⟨h1, h2⟩
  · go_enter Try.func18, Try.ntmps18
    go_wp2_with fail
    refine (IX.out _ _ (by simp) (by simp) (HA.out.alloc _)).mono' ?_; intro x
    go_wp2
    go_ret2
    exact ⟨rfl, (more_of_below (by repeat (first | (with_reducible exact Below.refl _ _) | (with_reducible refine Below.drew ?_) | (with_reducible refine Below.alloc ?_ (by simp [more_size]; try omega) _) | (with_reducible refine Below.setCell ?_ (by simp [more_size]; try omega) _) | (with_reducible refine below_more ?_ _ (by simp [more_size]; try omega)))))⟩
  · go_enter Try.func18, Try.ntmps18
    go_wp2_with fail
    refine (IX.out _ _ (by simp) (by simp) (HA.out.alloc _)).mono' ?_; intro x
    go_wp2
    go_ret2
    rw [show max i 0 = i by omega]
    exact ⟨rfl, (more_of_below (by repeat (first | (with_reducible exact Below.refl _ _) | (with_reducible refine Below.drew ?_) | (with_reducible refine Below.alloc ?_ (by simp [more_size]; try omega) _) | (with_reducible refine Below.setCell ?_ (by simp [more_size]; try omega) _) | (with_reducible refine below_more ?_ _ (by simp [more_size]; try omega)))))⟩
end Go.Proofs.Ytilpgojkbgbinaa
