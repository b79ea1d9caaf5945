/- ValueTexts: texts stand byte by byte; sixty bytes are a value, one more isn't. -/
import Derived.Test.YtdnhldmdjbalgaaKinds
set_option linter.unusedVariables false
set_option linter.unusedSimpArgs false
namespace Go.Proofs.Ytdnhldmdjbalgaa
open Go.RowKit
attribute [local go_sem] run_frombits run_tobits more_more more_drew more_drewN more_size more_cell more_frozen run_store_float lt_c1 le_c1 lt_s1 le_s1 lt_c2 le_c2 lt_s2 le_s2 lt_c3 le_c3 lt_s3 le_s3 lt_c4 le_c4 lt_s4 le_s4 lt_c5 le_c5 lt_s5 le_s5 lt_c6 le_c6 lt_s6 le_s6 lt_c7 le_c7 lt_s7 le_s7 lt_c8 le_c8 lt_s8 le_s8 lt_c9 le_c9 lt_s9 le_s9 lt_c10 le_c10 lt_s10 le_s10 lt_c11 le_c11 lt_s11 le_s11 lt_c12 le_c12 lt_s12 le_s12 le_c0 run_cmpstring

def textV (k : Int) (s : ByteArray) : Val := ⟨k, 0, s, 0⟩
theorem text_cmp (k : Int) (s t : ByteArray) : cmpV (textV k s) (textV k t) = cmpB s t := by
  unfold cmpV textV orI
  have h1 : ∀ x : Int, cmpI x x = 0 := fun x => (cmpI_zero x x).2 rfl
  have h2 : cmpN (ordN 0) (ordN 0) = 0 := by decide
  simp only [h1, h2, if_true]
  split <;> simp_all
theorem text_rows (a b : Val) : rowsV [a] [a, b] = -1 := by
  unfold rowsV orI; rw [cmpV_refl]; rfl
theorem text_is (k : Int) (hk : k = 3 ∨ k = 4) (s : ByteArray) : isV (textV k s) = decide ((s.size : Int) ≤ 60) := by
  rw [Bool.eq_iff_iff]
  rcases hk with rfl | rfl <;> (simp [isV, textV, plainV]; exact decide_eq_true_iff)
theorem bl_eq (x y : List UInt8) (h : Op.bytesLess x y = true) : (x == y) = false := by
  cases hx : x == y with
  | false => rfl
  | true => have := eq_of_beq hx; subst this; rw [bytesLess_irrefl] at h; cases h
theorem text_lt (s t : ByteArray) : (cmpB s t < 0) = (Op.bytesLess s.toList t.toList = true) := by
  rw [cmpB_eq]
  by_cases h : Op.bytesLess s.toList t.toList = true
  · simp [h]
  · simp only [h]; simp; split <;> omega
theorem text_eq (s t : ByteArray) : (cmpB s t == 0) = (s.toList == t.toList) := by
  rw [cmpB_eq]
  by_cases h : Op.bytesLess s.toList t.toList = true
  · rw [bl_eq _ _ h]; simp [h]
  · by_cases h2 : s.toList = t.toList
    · simp [h2, bytesLess_irrefl]
    · simp [h, h2]

set_option maxHeartbeats 2000000 in
theorem walk_ValueTexts (s t : ByteArray) (p : Bool) (hs : s.size ≤ 9223372036854775807) (ht : t.size ≤ 9223372036854775807) (w : World) :
    Gives Try.prog 11 #[.string s, .string t, .bool p] w (.bool true) := by
  rcases Nat.lt_or_ge 100 s.size with h1 | h1
  · have h1' : (100 : Int) < s.size := by omega
    go_enter Try.func11, Try.ntmps11
    go_wp2_with (first | (go_at_call 29; refine (known2 _).mono' ?_; intro x))
    go_ret
    exact ⟨rfl, (more_of_below (by repeat (first | (with_reducible exact Below.refl _ _) | (with_reducible refine Below.drew ?_) | (with_reducible refine Below.alloc ?_ (by simp [more_size]; try omega) _) | (with_reducible refine Below.setCell ?_ (by simp [more_size]; try omega) _) | (with_reducible refine below_more ?_ _ (by simp [more_size]; try omega)))))⟩
  rcases Nat.lt_or_ge 100 t.size with h2 | h2
  · have h2' : (100 : Int) < t.size := by omega
    have h1' : (s.size : Int) ≤ 100 := by omega
    go_enter Try.func11, Try.ntmps11
    go_wp2_with (first | (go_at_call 29; refine (known2 _).mono' ?_; intro x))
    go_ret
    exact ⟨rfl, (more_of_below (by repeat (first | (with_reducible exact Below.refl _ _) | (with_reducible refine Below.drew ?_) | (with_reducible refine Below.alloc ?_ (by simp [more_size]; try omega) _) | (with_reducible refine Below.setCell ?_ (by simp [more_size]; try omega) _) | (with_reducible refine below_more ?_ _ (by simp [more_size]; try omega)))))⟩
  have h1' : (s.size : Int) ≤ 100 := by omega
  have h2' : (t.size : Int) ≤ 100 := by omega
  have key : ∀ k : Int, k = 3 ∨ k = 4 → (textV k s).ok ∧ (textV k t).ok := by
    intro k hk
    refine ⟨⟨by show (0 : Nat) < _; omega, ⟨by show _ ≤ k; omega, by show k < _; omega⟩, ⟨by show _ ≤ (0 : Int); omega, by show (0 : Int) < _; omega⟩, by show s.size ≤ _; omega⟩,
      ⟨by show (0 : Nat) < _; omega, ⟨by show _ ≤ k; omega, by show k < _; omega⟩, ⟨by show _ ≤ (0 : Int); omega, by show (0 : Int) < _; omega⟩, by show t.size ≤ _; omega⟩⟩
  obtain ⟨k, hk, hp⟩ : ∃ k : Int, (k = 3 ∨ k = 4) ∧ k = (if p = true then 4 else 3) := by
    cases p
    · exact ⟨3, .inl rfl, rfl⟩
    · exact ⟨4, .inr rfl, rfl⟩
  obtain ⟨o1, o2⟩ := key k hk
  have C1 := comparev_any _ _ o1 o2
  rw [text_cmp] at C1
  have I1 := is_v _ o1
  rw [text_is k hk] at I1
  have R1 : ∀ (W : World) (g g' : Nat) (h : ValsIn W (some ⟨g, 0, none⟩) [textV k s]) (h' : ValsIn W (some ⟨g', 0, none⟩) [textV k s, textV k t]),
      Gives Try.prog 36 #[.slice (some ⟨g, 0, none⟩) 1 1, .slice (some ⟨g', 0, none⟩) 2 2] W (.int .i64 (-1)) := fun W g g' h h' => by
    have := rows_any _ _ 1 2 [textV k s] [textV k s, textV k t] (fun a ha => by simp at ha; rw [ha]; exact o1) (fun a ha => by simp at ha; rcases ha with rfl | rfl <;> assumption) W (by simp) (by simp) h h'
    rw [text_rows] at this
    exact this
  have L := text_lt s t
  have E := text_eq s t
  generalize cmpB s t = c at C1 L E
  unfold Val.v textV at *
  dsimp only at *
  have C1' := Lib.hid C1; clear C1
  have I1' := Lib.hid I1; clear I1
  have R1' := Lib.hid R1; clear R1
  clear key o1 o2 hk
  cases p
  all_goals
    simp at hp
    subst hp
    go_enter Try.func11, Try.ntmps11
    go_wp2_with (first | (go_at_call 29; refine (known2 _).mono' ?_; intro x) | (go_at_call 31; refine (C1'.out _).mono' ?_; intro x) | (go_at_call 35; refine (I1'.out _).mono' ?_; intro x))
    refine (R1'.out _ _ _ (by exact (valsIn_one ⟨_, 0, s, 0⟩ (by simp [more_size])).alloc _) (by exact valsIn_two ⟨_, 0, s, 0⟩ ⟨_, 0, t, 0⟩ (by simp [more_size]))).mono' ?_; intro x'
    go_wp2
    go_ret
    exact ⟨rfl, (more_of_below (by repeat (first | (with_reducible exact Below.refl _ _) | (with_reducible refine Below.drew ?_) | (with_reducible refine Below.alloc ?_ (by simp [more_size]; try omega) _) | (with_reducible refine Below.setCell ?_ (by simp [more_size]; try omega) _) | (with_reducible refine below_more ?_ _ (by simp [more_size]; try omega)))))⟩
theorem law_ValueTexts (v0 v1 v2 : Value) (w : World) (h0 : IsStr v0) (h1 : IsStr v1) (h2 : IsBool v2) :
    Calls Try.prog 11 #[v0, v1, v2] w fun e w' => e = .returned (.bool true) ∧ Below w.heap.size w w' := by
  obtain ⟨s, rfl, hs⟩ := h0
  obtain ⟨t, rfl, ht⟩ := h1
  obtain ⟨p, rfl⟩ := h2
  exact law_of (walk_ValueTexts s t p hs ht w)
end Go.Proofs.Ytdnhldmdjbalgaa
