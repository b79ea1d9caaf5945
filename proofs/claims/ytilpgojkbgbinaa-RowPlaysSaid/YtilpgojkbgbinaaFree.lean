/- Package heaps: a bag of numbers. -/
import Derived.Test.YtilpgojkbgbinaaPileI
set_option maxRecDepth 100000
set_option linter.unusedVariables false
set_option linter.unusedSimpArgs false
namespace Go.Proofs.Ytilpgojkbgbinaa
open Go.RowKit
attribute [local go_sem] run_frombits run_tobits more_more more_drew more_drewN more_size more_cell more_frozen run_store_float lt_c1 le_c1 lt_s1 le_s1 lt_c2 le_c2 lt_s2 le_s2 lt_c3 le_c3 lt_s3 le_s3 lt_c4 le_c4 lt_s4 le_s4 lt_c5 le_c5 lt_s5 le_s5 lt_c6 le_c6 lt_s6 le_s6 lt_c7 le_c7 lt_s7 le_s7 lt_c8 le_c8 lt_s8 le_s8 lt_c9 le_c9 lt_s9 le_s9 lt_c10 le_c10 lt_s10 le_s10 lt_c11 le_c11 lt_s11 le_s11 lt_c12 le_c12 lt_s12 le_s12 le_c0 run_ta_int

def ltI (a b : Int) : Bool := decide (a < b)
theorem ltI_swo : Swo ltI := ⟨fun a b h => by unfold ltI at *; simp at *; omega, fun a b c h1 h2 => by unfold ltI at *; simp at *; omega⟩
theorem le_ltI {a b : Int} : le ltI a b ↔ a ≤ b := by unfold le ltI; simp
abbrev FV : Value := .func (.func 88) #[] #[]
set_option maxHeartbeats 400000 in
theorem tells_free : Tells (fun n : Int => .int .i64 n) ltI 88 #[] [] := by
  refine ⟨enters Try.func88 (by kernel_rfl) rfl, fun W x y _ => ?_⟩
  show Gives _ _ #[.int .i64 x, .int .i64 y] W _
  go_enter Try.func88, Try.ntmps88
  go_wp2
  go_ret
  exact ⟨rfl, (more_of_below (by repeat (first | (with_reducible exact Below.refl _ _) | (with_reducible refine Below.drew ?_) | (with_reducible refine Below.alloc ?_ (by simp [more_size]; try omega) _) | (with_reducible refine Below.setCell ?_ (by simp [more_size]; try omega) _) | (with_reducible refine below_more ?_ _ (by simp [more_size]; try omega)))))⟩
/-- a bag at p that holds these numbers -/
def FreeAt (w : World) (p : Nat) (a : Option Nat) (m : List Int) : Prop := ∃ l : List Int, PI 144 FV p [] w a l ∧ IsHeap ltI 0 l ∧ l.Perm m
theorem FreeAt.more {w : World} {p : Nat} {a : Option Nat} {m : List Int} (h : FreeAt w p a m) (x : Ext) : FreeAt (more w x) p a m := by
  obtain ⟨l, h1, h2, h3⟩ := h
  exact ⟨l, h1.more x, h2, h3⟩
theorem FreeAt.bound {w : World} {p : Nat} {a : Option Nat} {m : List Int} (h : FreeAt w p a m) : m.length ≤ 1000000 := by
  obtain ⟨l, h1, h2, h3⟩ := h
  rw [← h3.length_eq]; exact h1.1
set_option maxHeartbeats 400000 in
theorem newfree_any (w : World) : Calls Try.prog 40 #[] w fun e w' => e = .returned (.pointer (some ⟨w.heap.size, 0, none⟩)) ∧ FreeAt w' w.heap.size none [] ∧ Below w.heap.size w w' := by
  have H : FreeAt (w.alloc (.cells #[.slice none 0 0, FV] 144)) w.heap.size none [] :=
    ⟨[], ⟨by simp, by simp, ⟨.slice none 0 0, Blk.new _ _ _ rfl, rfl, World.ownsRow_nil _ _ _ _⟩, fun b o hm => by simp at hm⟩, fun k hk hk2 => by simp at hk2, List.Perm.refl _⟩
  replace H := Lib.hid H
  go_enter Try.func40, Try.ntmps40
  go_wp2
  go_ret
  exact ⟨rfl, H.out, (by repeat (first | (with_reducible exact Below.refl _ _) | (with_reducible refine Below.drew ?_) | (with_reducible refine Below.alloc ?_ (by simp [more_size]; try omega) _) | (with_reducible refine Below.setCell ?_ (by simp [more_size]; try omega) _) | (with_reducible refine below_more ?_ _ (by simp [more_size]; try omega))))⟩
set_option maxHeartbeats 1000000 in
theorem free_len (w : World) (p : Nat) (a : Option Nat) (m : List Int) (h : FreeAt w p a m) :
    Calls Try.prog 43 #[.pointer (some ⟨p, 0, none⟩)] w fun e w' => e = .returned (.int .i64 m.length) ∧ w = w' := by
  obtain ⟨l, h1, h2, h3⟩ := h
  have L := Lib.hid (pi_len FV w a l h1)
  have e := h3.length_eq
  rw [← e]
  clear h1 h2 h3 e
  go_enter Try.func43, Try.ntmps43
  go_wp2_with fail
  refine L.out.mono ?_; rintro e w' ⟨rfl, rfl⟩
  go_wp2
  go_ret
  exact ⟨rfl, rfl⟩
set_option maxHeartbeats 1000000 in
theorem free_put (w : World) (p : Nat) (a : Option Nat) (m : List Int) (n : Int) (hm : m.length + 1 ≤ 1000000) (h : FreeAt w p a m) :
    Calls Try.prog 41 #[.pointer (some ⟨p, 0, none⟩), .int .i64 n] w fun e w' => e = .returned (.tuple #[]) ∧ ∃ a', FreeAt w' p a' (n :: m) ∧ Fresh w a a' ∧ Keeps p a w w' := by
  obtain ⟨l, h1, h2, h3⟩ := h
  have e := h3.length_eq
  have PL := push_law ltI_swo 0 l n h2
  have P := push_any (pile_int (p := p) (K := []) (pT := 144) tells_free) a l n (by omega) w h1
  replace P := Lib.hid P
  clear h1 h2
  go_enter Try.func41, Try.ntmps41
  go_wp2_with fail
  refine P.out.mono ?_
  rintro e1 w1 ⟨rfl, a1, hS, hF, hK⟩
  go_wp2
  go_end0
  exact ⟨rfl, a1, ⟨_, hS, PL.2.1, PL.1.trans (h3.cons n)⟩, hF, hK⟩
set_option maxHeartbeats 1000000 in
theorem free_take_none (w : World) (p : Nat) (a : Option Nat) (h : FreeAt w p a []) :
    Calls Try.prog 42 #[.pointer (some ⟨p, 0, none⟩)] w fun e w' => e = .returned (.tuple #[.int .i64 0, .bool false]) ∧ w = w' := by
  have L := Lib.hid (free_len w p a [] h)
  clear h
  go_enter Try.func42, Try.ntmps42
  go_wp2_with fail
  refine L.out.mono ?_; rintro e w' ⟨rfl, rfl⟩
  go_wp2
  go_ret2
  exact ⟨rfl, rfl⟩
set_option maxHeartbeats 1000000 in
theorem free_take (w : World) (p : Nat) (a : Option Nat) (m : List Int) (hm : m ≠ []) (h : FreeAt w p a m) :
    Calls Try.prog 42 #[.pointer (some ⟨p, 0, none⟩)] w fun e w' => ∃ k : Int, e = .returned (.tuple #[.int .i64 k, .bool true]) ∧ k ∈ m ∧ (∀ x ∈ m, k ≤ x) ∧ FreeAt w' p a (m.erase k) ∧ Keeps p a w w' := by
  have L := Lib.hid (free_len w p a m h)
  obtain ⟨l, h1, h2, h3⟩ := h
  have e := h3.length_eq
  have hl : 0 < l.length := by
    rw [e]; cases m with
    | nil => exact absurd rfl hm
    | cons x m => simp
  have PL := pop_law ltI_swo 0 l hl h2
  have P := pop_any (pile_int (p := p) (K := []) (pT := 144) tells_free) a l hl w h1
  replace P := Lib.hid P
  have hne : ((m.length : Int) == 0) = false := by rw [beq_eq_false_iff_ne]; omega
  have hk : nth 0 l 0 ∈ m := h3.mem_iff.1 (PL.1.mem_iff.1 (List.mem_cons_self ..))
  have hle : ∀ x ∈ m, nth 0 l 0 ≤ x := fun x hx => le_ltI.1 (PL.2.1 x (h3.mem_iff.2 hx))
  have hp : ((popL ltI 0 l).take (l.length - 1)).Perm (m.erase (nth 0 l 0)) := by
    have := (PL.1.trans h3).erase (nth 0 l 0)
    rwa [List.erase_cons_head] at this
  have hh := PL.2.2
  generalize nth 0 l 0 = k at *
  replace hk := Lib.hid hk
  replace hle := Lib.hid hle
  replace hp := Lib.hid hp
  replace hh := Lib.hid hh
  clear h1 h2 h3 PL e hl hm
  go_enter Try.func42, Try.ntmps42
  go_wp2_with fail
  refine L.out.mono ?_; rintro e w' ⟨rfl, rfl⟩
  go_wp2_with fail
  refine P.out.mono ?_
  rintro e1 w1 ⟨rfl, hS, hK⟩
  go_wp2
  go_ret2
  exact ⟨k, rfl, hk.out, hle.out, ⟨_, hS, hh.out, hp.out⟩, hK⟩
end Go.Proofs.Ytilpgojkbgbinaa
