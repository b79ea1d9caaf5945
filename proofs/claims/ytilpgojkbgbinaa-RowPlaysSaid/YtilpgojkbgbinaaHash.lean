/- The hash of a row of values: package value's and its reference's. -/
import Derived.Test.YtilpgojkbgbinaaVal3
set_option maxRecDepth 100000
set_option linter.unusedVariables false
set_option linter.unusedSimpArgs false
namespace Go.Proofs.Ytilpgojkbgbinaa
open Go.RowKit
attribute [local go_sem] run_frombits run_tobits more_more more_drew more_drewN more_size more_cell more_frozen run_store_float lt_c1 le_c1 lt_s1 le_s1 lt_c2 le_c2 lt_s2 le_s2 lt_c3 le_c3 lt_s3 le_s3 lt_c4 le_c4 lt_s4 le_s4 lt_c5 le_c5 lt_s5 le_s5 lt_c6 le_c6 lt_s6 le_s6 lt_c7 le_c7 lt_s7 le_s7 lt_c8 le_c8 lt_s8 le_s8 lt_c9 le_c9 lt_s9 le_s9 lt_c10 le_c10 lt_s10 le_s10 lt_c11 le_c11 lt_s11 le_s11 lt_c12 le_c12 lt_s12 le_s12 le_c0 

def hbN (h c : Nat) : Nat := (h ^^^ c) * 1099511628211 % 18446744073709551616
def h8N : Nat → Nat → Nat → Nat
  | 0, h, _ => h
  | k + 1, h, n => h8N k (hbN h (n % 256)) (n / 256)
def hbytes (h : Nat) (l : List UInt8) : Nat := l.foldl (fun h c => hbN h c.toNat) h
def hash1 (h : Nat) (a : Val) : Nat :=
  h8N 8 (hbytes (h8N 8 (h8N 8 (hbN h (a.k % 256).toNat) (a.i % 18446744073709551616).toNat) a.s.size) a.s.toList) (ordN a.f)
def hashV (l : List Val) : Nat := l.foldl hash1 14695981039346656037
theorem hbN_lt (h c : Nat) : hbN h c < 18446744073709551616 := Nat.mod_lt _ (by decide)
theorem h8N_lt : ∀ k h n, h < 18446744073709551616 → h8N k h n < 18446744073709551616
  | 0, h, n, hh => hh
  | k + 1, h, n, hh => h8N_lt k _ _ (hbN_lt _ _)
theorem hbytes_lt (l : List UInt8) : ∀ h, h < 18446744073709551616 → hbytes h l < 18446744073709551616 := by
  induction l with
  | nil => intro h hh; exact hh
  | cons c l ih => intro h hh; exact ih _ (hbN_lt _ _)
theorem hash1_lt (h : Nat) (a : Val) (hh : h < 18446744073709551616) : hash1 h a < 18446744073709551616 := by
  unfold hash1; exact h8N_lt _ _ _ (hbytes_lt _ _ (h8N_lt _ _ _ (h8N_lt _ _ _ (hbN_lt _ _))))
theorem step_eq {h c : Nat} (hh : h < 18446744073709551616) (hc : c < 256) : IntKind.u64.wrap (bits .xor .u64 (h : Int) (c : Int) * 1099511628211) = (hbN h c : Int) := by
  rw [u64_xor_nat h c hh (by omega), IntKind.wrap_u64]
  unfold hbN
  omega

theorem setCell_setCell (w : World) (a : Addr) (v v' : Value) : (w.setCell a v).setCell a v' = w.setCell a v' := by
  cases w with
  | mk heap tape drawn os output =>
  simp only [World.setCell]
  congr 1
  apply Array.ext_getElem?
  intro k
  simp only [Array.getElem?_modify]
  by_cases hk : a.block = k
  · simp only [hk, if_true, Option.map_map]
    congr 1
    funext o
    cases o <;> simp
    split <;> simp
  · simp [hk]
theorem frozen_setCell (w : World) (a q : Addr) (v : Value) : (w.setCell a v).frozen? q = w.frozen? q := by
  simp only [World.frozen?, World.setCell, Array.getElem?_modify]
  by_cases hk : a.block = q.block
  · simp only [hk, if_true]
    cases h : w.heap[q.block]? with
    | none => simp
    | some o => cases o <;> simp
  · simp [hk]

theorem bytes_step (s : ByteArray) (j : Nat) (h : j < s.size) : s.toList.drop j = s[j] :: s.toList.drop (j + 1) := by
  rw [ByteArray.toList_eq, List.drop_eq_getElem_cons (by simpa using h)]; rfl
theorem bytes_end (s : ByteArray) : s.toList.drop s.size = [] := by
  rw [ByteArray.toList_eq]; exact List.drop_eq_nil_of_le (by simp)
/-- the state of a round of Hash: the hash in block g, the value in block bx -/
structure HashAt (w wx : World) (g bx : Nat) (h : Nat) (a : Val) : Prop where
  cell : wx.cell? ⟨g, 0, none⟩ = some (.int .u64 h)
  frozen : wx.frozen? ⟨g, 0, none⟩ = false
  lt : g < bx
  size : bx < wx.heap.size
  val : ValAt wx bx 0 a
  bel : Below g w wx
theorem HashAt.set {w wx : World} {g bx h : Nat} {a : Val} (s : HashAt w wx g bx h a) (h' : Nat) : HashAt w (wx.setCell ⟨g, 0, none⟩ (.int .u64 (h' : Int))) g bx h' a := by
  have ne : ∀ i, (⟨bx, i, none⟩ : Addr).block ≠ (⟨g, 0, none⟩ : Addr).block := fun i => by have := s.lt; show bx ≠ g; omega
  have far : ∀ i, (wx.setCell ⟨g, 0, none⟩ (.int .u64 (h' : Int))).cell? ⟨bx, i, none⟩ = wx.cell? ⟨bx, i, none⟩ := fun i =>
    World.cell?_of_block (Below.heap_setCell _ _ _ _ (ne i))
  exact ⟨World.cell?_setCell_same _ _ _ s.cell, (frozen_setCell _ _ _ _).trans s.frozen, s.lt, by have := s.size; simpa [World.setCell] using this,
    ⟨(far _).trans s.val.1, (far _).trans s.val.2.1, (far _).trans s.val.2.2.1, (far _).trans s.val.2.2.2⟩, s.bel.setCell (Nat.le_refl _) _⟩

end Go.Proofs.Ytilpgojkbgbinaa
