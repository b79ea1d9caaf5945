/- Plain: comparing values is an order; what is the same is equal. No program in sight. -/
import Derived.Test.YtijegkiapbmekaaValP
set_option maxRecDepth 100000
set_option linter.unusedVariables false
set_option linter.unusedSimpArgs false
namespace Go.Proofs.Ytijegkiapbmekaa

structure IsCmp {α : Type} (c : α → α → Int) : Prop where
  self : ∀ x, c x x = 0
  anti : ∀ x y, c y x = -c x y
  trans : ∀ x y z, c x y ≤ 0 → c y z ≤ 0 → c x z ≤ 0
theorem IsCmp.lt_of {α : Type} {c : α → α → Int} (h : IsCmp c) {x y z : α} (h1 : c x y < 0) (h2 : c y z ≤ 0) : c x z < 0 := by
  have a := h.trans x y z (by omega) h2
  rcases Int.lt_or_eq_of_le a with b | b
  · exact b
  · have h3 : c z x ≤ 0 := by rw [h.anti x z]; omega
    have h4 := h.trans y z x h2 h3
    rw [h.anti x y] at h4; omega
theorem IsCmp.lt_of' {α : Type} {c : α → α → Int} (h : IsCmp c) {x y z : α} (h1 : c x y ≤ 0) (h2 : c y z < 0) : c x z < 0 := by
  have a := h.trans x y z h1 (by omega)
  rcases Int.lt_or_eq_of_le a with b | b
  · exact b
  · have h3 : c z x ≤ 0 := by rw [h.anti x z]; omega
    have h4 := h.trans z x y h3 h1
    rw [h.anti y z] at h4; omega
theorem IsCmp.lex {α : Type} {c d : α → α → Int} (h : IsCmp c) (k : IsCmp d) : IsCmp (fun x y => orI (c x y) (d x y)) where
  self x := by simp [orI, h.self, k.self]
  anti x y := by
    unfold orI
    rw [h.anti x y, k.anti x y]
    by_cases e : c x y = 0
    · rw [if_pos (by omega), if_pos e]
    · rw [if_neg (by omega), if_neg e]
  trans x y z h1 h2 := by
    unfold orI at *
    by_cases e : c x y = 0
    · rw [if_pos e] at h1
      by_cases f : c y z = 0
      · rw [if_pos f] at h2
        have a := h.trans x y z (by omega) (by omega)
        have b := h.trans z y x (by rw [h.anti y z]; omega) (by rw [h.anti x y]; omega)
        rw [h.anti x z] at b
        rw [if_pos (by omega)]
        exact k.trans x y z h1 h2
      · rw [if_neg f] at h2
        have := h.lt_of' (x := x) (y := y) (z := z) (by omega) (by omega)
        rw [if_neg (by omega)]; omega
    · rw [if_neg e] at h1
      by_cases f : c y z = 0
      · have := h.lt_of (x := x) (y := y) (z := z) (by omega) (by omega)
        rw [if_neg (by omega)]; omega
      · rw [if_neg f] at h2
        have := h.lt_of (x := x) (y := y) (z := z) (by omega) (by omega)
        rw [if_neg (by omega)]; omega
theorem cmpI_is : IsCmp cmpI where
  self x := (cmpI_zero x x).2 rfl
  anti := cmpI_anti
  trans x y z h1 h2 := by
    have a : x ≤ y := by unfold cmpI at h1; split at h1 <;> (try split at h1) <;> omega
    have b : y ≤ z := by unfold cmpI at h2; split at h2 <;> (try split at h2) <;> omega
    unfold cmpI; split <;> (try split) <;> omega
theorem IsCmp.on {α β : Type} {c : β → β → Int} (h : IsCmp c) (f : α → β) : IsCmp (fun x y => c (f x) (f y)) :=
  ⟨fun x => h.self _, fun x y => h.anti _ _, fun x y z => h.trans _ _ _⟩
theorem cb_zero : ∀ x y : List UInt8, Lib.compareBytes x y = 0 ↔ x = y
  | [], [] => by simp [Lib.compareBytes]
  | [], _ :: _ => by simp [Lib.compareBytes]
  | _ :: _, [] => by simp [Lib.compareBytes]
  | a :: x, b :: y => by
    unfold Lib.compareBytes
    by_cases h1 : a < b
    · rw [if_pos h1]
      constructor
      · intro h; omega
      · intro h; injection h with h _; subst h; exact absurd h1 (UInt8.lt_irrefl _)
    · rw [if_neg h1]
      by_cases h2 : b < a
      · rw [if_pos h2]
        constructor
        · intro h; omega
        · intro h; injection h with h _; subst h; exact absurd h2 (UInt8.lt_irrefl _)
      · rw [if_neg h2, cb_zero x y]
        have h3 : a = b := UInt8.le_antisymm (UInt8.not_lt.1 h2) (UInt8.not_lt.1 h1)
        subst h3; simp
theorem cb_anti : ∀ x y : List UInt8, Lib.compareBytes y x = -Lib.compareBytes x y
  | [], [] => by simp [Lib.compareBytes]
  | [], _ :: _ => by simp [Lib.compareBytes]
  | _ :: _, [] => by simp [Lib.compareBytes]
  | a :: x, b :: y => by
    unfold Lib.compareBytes
    by_cases h1 : a < b
    · have h2 : ¬ b < a := fun h => absurd (UInt8.lt_trans h1 h) (UInt8.lt_irrefl _)
      simp [h1, h2]
    · by_cases h2 : b < a
      · simp [h1, h2]
      · simp only [h1, h2, if_false]; exact cb_anti x y
theorem cb_trans : ∀ x y z : List UInt8, Lib.compareBytes x y ≤ 0 → Lib.compareBytes y z ≤ 0 → Lib.compareBytes x z ≤ 0
  | [], _, [] => fun _ _ => by simp [Lib.compareBytes]
  | [], _, _ :: _ => fun _ _ => by simp [Lib.compareBytes]
  | _ :: _, [], _ => fun h _ => by simp [Lib.compareBytes] at h
  | _ :: _, _ :: _, [] => fun _ h => by simp [Lib.compareBytes] at h
  | a :: x, b :: y, c :: z => by
    intro h1 h2
    unfold Lib.compareBytes at h1 h2 ⊢
    have tot : ∀ u v : UInt8, u < v ∨ u = v ∨ v < u := fun u v => by
      rcases Nat.lt_trichotomy u.toNat v.toNat with h | h | h
      · exact .inl (UInt8.lt_iff_toNat_lt.2 h)
      · exact .inr (.inl (UInt8.toNat_inj.1 h))
      · exact .inr (.inr (UInt8.lt_iff_toNat_lt.2 h))
    rcases tot a b with p | p | p
    · rcases tot b c with q | q | q
      · rw [if_pos (UInt8.lt_trans p q)]; omega
      · subst q; rw [if_pos p]; omega
      · have : ¬ b < c := fun h => absurd (UInt8.lt_trans q h) (UInt8.lt_irrefl _)
        rw [if_neg this, if_pos q] at h2; omega
    · subst p
      rw [if_neg (UInt8.lt_irrefl _), if_neg (UInt8.lt_irrefl _)] at h1
      rcases tot a c with q | q | q
      · rw [if_pos q]; omega
      · subst q
        rw [if_neg (UInt8.lt_irrefl _), if_neg (UInt8.lt_irrefl _)] at h2 ⊢
        exact cb_trans x y z h1 h2
      · have : ¬ a < c := fun h => absurd (UInt8.lt_trans q h) (UInt8.lt_irrefl _)
        rw [if_neg this, if_pos q] at h2; omega
    · have : ¬ a < b := fun h => absurd (UInt8.lt_trans p h) (UInt8.lt_irrefl _)
      rw [if_neg this, if_pos p] at h1; omega
theorem cmpV_is : IsCmp cmpV := by
  have hb : IsCmp Lib.compareBytes := ⟨fun x => (cb_zero x x).2 rfl, cb_anti, cb_trans⟩
  have hf : IsCmp (fun a b : Val => cmpN (ordN a.f) (ordN b.f)) := by
    have := cmpI_is.on (fun a : Val => ((ordN a.f : Nat) : Int))
    simpa only [cmpN_is] using this
  exact (cmpI_is.on (fun a : Val => a.k)).lex ((cmpI_is.on (fun a : Val => a.i)).lex ((hb.on (fun a : Val => a.s.data.toList)).lex hf))
theorem orI_zero (x y : Int) : orI x y = 0 ↔ x = 0 ∧ y = 0 := by unfold orI; split <;> omega
theorem cmpV_zero {a b : Val} (ha : a.ok) (hb : b.ok) (h : cmpV a b = 0) : a = b := by
  unfold cmpV at h
  rw [orI_zero, orI_zero, orI_zero, cmpI_zero, cmpI_zero] at h
  obtain ⟨h1, h2, h3, h4⟩ := h
  have h3' := (cb_zero _ _).1 h3
  rw [cmpN_is, cmpI_zero] at h4
  have h4' := (ordN_inj ha.1 hb.1).1 (by omega)
  obtain ⟨ak, ai, ast, af⟩ := a
  obtain ⟨bk, bi, bst, bf⟩ := b
  simp only at h1 h2 h3' h4'
  subst h1 h2 h4'
  congr
  cases ast; cases bst
  congr
  exact Array.toList_inj.1 h3'
theorem rows_two (a b c : Val) : rowsV [a, c] [b, c] = cmpV a b := by
  unfold rowsV rowsV rowsV
  rw [cmpV_refl]
  unfold orI; split <;> simp_all
end Go.Proofs.Ytijegkiapbmekaa
