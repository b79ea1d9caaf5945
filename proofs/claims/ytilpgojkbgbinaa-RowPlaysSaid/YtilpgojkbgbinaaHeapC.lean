/- container/heap, over whatever pile: what each function makes of it. -/
import Derived.Test.YtilpgojkbgbinaaHeapP
import Derived.Test.YtilpgojkbgbinaaOwn
set_option maxRecDepth 100000
set_option linter.unusedVariables false
set_option linter.unusedSimpArgs false
namespace Go.Proofs.Ytilpgojkbgbinaa
open Go.RowKit
attribute [local go_sem] run_frombits run_tobits more_more more_drew more_drewN more_size more_cell more_frozen run_store_float lt_c1 le_c1 lt_s1 le_s1 lt_c2 le_c2 lt_s2 le_s2 lt_c3 le_c3 lt_s3 le_s3 lt_c4 le_c4 lt_s4 le_s4 lt_c5 le_c5 lt_s5 le_s5 lt_c6 le_c6 lt_s6 le_s6 lt_c7 le_c7 lt_s7 le_s7 lt_c8 le_c8 lt_s8 le_s8 lt_c9 le_c9 lt_s9 le_s9 lt_c10 le_c10 lt_s10 le_s10 lt_c11 le_c11 lt_s11 le_s11 lt_c12 le_c12 lt_s12 le_s12 le_c0

/-- all blocks are as they were, but two: that of a pile, and that of its row; new ones may have come -/
structure Keeps (p : Nat) (a : Option Nat) (w w' : World) : Prop where
  os : w'.os = w.os
  tape : w'.tape = w.tape
  output : w'.output = w.output
  size : w.heap.size ≤ w'.heap.size
  block : ∀ k, k < w.heap.size → k ≠ p → some k ≠ a → w'.heap[k]? = w.heap[k]?
/-- the same row, or a new one -/
def Fresh (w : World) (a a' : Option Nat) : Prop := a' = a ∨ ∃ k, a' = some k ∧ w.heap.size ≤ k
theorem Keeps.refl (p : Nat) (a : Option Nat) (w : World) : Keeps p a w w := ⟨rfl, rfl, rfl, Nat.le_refl _, fun _ _ _ _ => rfl⟩
theorem Keeps.trans {p : Nat} {a a1 : Option Nat} {w w1 w2 : World} (h : Keeps p a w w1) (k : Keeps p a1 w1 w2) (hf : Fresh w a a1) : Keeps p a w w2 :=
  ⟨k.os.trans h.os, k.tape.trans h.tape, k.output.trans h.output, Nat.le_trans h.size k.size, fun i h1 h2 h3 =>
    (k.block i (Nat.lt_of_lt_of_le h1 h.size) h2 (by
      rcases hf with rfl | ⟨m, rfl, hm⟩
      · exact h3
      · intro e; injection e with e; omega)).trans (h.block i h1 h2 h3)⟩
theorem Keeps.trans' {p : Nat} {a : Option Nat} {w w1 w2 : World} (h : Keeps p a w w1) (k : Keeps p a w1 w2) : Keeps p a w w2 := h.trans k (.inl rfl)
theorem keeps_more (p : Nat) (a : Option Nat) (w : World) (x : Ext) : Keeps p a w (more w x) := ⟨rfl, rfl, rfl, by rw [more_size]; omega, fun k h _ _ => more_block w x h⟩
theorem Fresh.refl (w : World) (a : Option Nat) : Fresh w a a := .inl rfl
/-- what a pile's methods do -/
structure Pile {α : Type} (lt : α → α → Bool) (d : α) (T : TypeId) (hp : Value) (fLen fLess fSwap fPush fPop : FuncId) (p : Nat) (iv : α → Value) (S : World → Option Nat → List α → Prop) : Prop where
  mLen : ∀ w, (method 353 T hp "Len").run Try.prog w = .ok (fLen, hp) w
  mLess : ∀ w, (method 353 T hp "Less").run Try.prog w = .ok (fLess, hp) w
  mSwap : ∀ w, (method 353 T hp "Swap").run Try.prog w = .ok (fSwap, hp) w
  mPush : ∀ w, (method 353 T hp "Push").run Try.prog w = .ok (fPush, hp) w
  mPop : ∀ w, (method 353 T hp "Pop").run Try.prog w = .ok (fPop, hp) w
  eLen : ∀ (args : Array Value) (w : World), (callFunc fLen args).run Try.prog w = .ok (.enter fLen args) w
  eLess : ∀ (args : Array Value) (w : World), (callFunc fLess args).run Try.prog w = .ok (.enter fLess args) w
  eSwap : ∀ (args : Array Value) (w : World), (callFunc fSwap args).run Try.prog w = .ok (.enter fSwap args) w
  ePush : ∀ (args : Array Value) (w : World), (callFunc fPush args).run Try.prog w = .ok (.enter fPush args) w
  ePop : ∀ (args : Array Value) (w : World), (callFunc fPop args).run Try.prog w = .ok (.enter fPop args) w
  bound : ∀ w a l, S w a l → l.length ≤ 1000000
  more : ∀ w a l x, S w a l → S (more w x) a l
  len : ∀ w a l, S w a l → Calls Try.prog fLen #[hp] w fun e w' => e = .returned (.int .i64 l.length) ∧ w = w'
  less : ∀ w a l (i j : Nat), i < l.length → j < l.length → S w a l → Gives Try.prog fLess #[hp, .int .i64 i, .int .i64 j] w (.bool (lt (nth d l i) (nth d l j)))
  swap : ∀ w a l (i j : Nat), i < l.length → j < l.length → S w a l → Calls Try.prog fSwap #[hp, .int .i64 i, .int .i64 j] w fun e w' => e = .returned (.tuple #[]) ∧ S w' a (swp l i j) ∧ Keeps p a w w'
  push : ∀ w a l x, l.length + 1 ≤ 1000000 → S w a l → Calls Try.prog fPush #[hp, iv x] w fun e w' => e = .returned (.tuple #[]) ∧ ∃ a', S w' a' (l ++ [x]) ∧ Fresh w a a' ∧ Keeps p a w w'
  pop : ∀ w a l x, S w a (l ++ [x]) → Calls Try.prog fPop #[hp] w fun e w' => e = .returned (iv x) ∧ S w' a l ∧ Keeps p a w w'
section
variable {α : Type} {lt : α → α → Bool} {d : α} {T : TypeId} {hp : Value} {fLen fLess fSwap fPush fPop : FuncId} {p : Nat} {iv : α → Value} {S : World → Option Nat → List α → Prop}
theorem upL_out (f : Nat) (l : List α) (k : Nat) (h : par k = k ∨ lt (nth d l k) (nth d l (par k)) = false) : upL lt d f l k = l := by
  cases f with
  | zero => rfl
  | succ f =>
    unfold upL
    rcases h with h | h
    · rw [if_pos h]
    · rw [if_neg (show ¬ lt (nth d l k) (nth d l (par k)) = true by rw [h]; decide)]; split <;> rfl
theorem downL_end (f : Nat) (l : List α) (i n : Nat) (h : n ≤ 2 * i + 1 ∨ lt (nth d l (kid lt d l i n)) (nth d l i) = false) : downL lt d f l i n = l := by
  cases f with
  | zero => rfl
  | succ f =>
    unfold downL
    rcases h with h | h
    · rw [if_pos h]
    · rw [if_neg (show ¬ lt (nth d l (kid lt d l i n)) (nth d l i) = true by rw [h]; decide)]; split <;> rfl
set_option maxHeartbeats 2000000 in
theorem up_any (P : Pile lt d T hp fLen fLess fSwap fPush fPop p iv S) (a : Option Nat) (l : List α) (j f : Nat) (w : World) (hj : j < l.length) (hf : j ≤ f) (hs : S w a l) :
    Calls Try.prog 110 #[.iface T hp, .int .i64 j] w fun e w' => e = .returned (.tuple #[]) ∧ S w' a (upL lt d f l j) ∧ Keeps p a w w' := by
  have hb := P.bound w a l hs
  have mLess := P.mLess
  have mSwap := P.mSwap
  have eLess := P.eLess
  have eSwap := P.eSwap
  have less := Lib.hid P.less
  have swap := Lib.hid P.swap
  have PM := Lib.hid P.more
  replace hs := Lib.hid hs
  clear P
  go_enter Try.func110, Try.ntmps110
  go_wp2
  go_loopw [1, 4] (fun t _ wr => ∃ (k g : Nat) (l' : List α), t = .int .i64 k ∧ k < l'.length ∧ k ≤ g ∧ Hid (l'.length = l.length) ∧ Hid (upL lt d g l' k = upL lt d f l j) ∧ Hid (S wr a l') ∧ Hid (Keeps p a w wr)) (fun t _ _ => (intOf t).toNat)
  case atStart => exact ⟨j, f, l, rfl, hj, hf, Lib.hid rfl, Lib.hid rfl, hs, Lib.hid (Keeps.refl _ _ _)⟩
  case round =>
    obtain ⟨k, g, l', rfl, hk, hg, hlen, hu, hS, hK⟩ := hrel
    have hk6 : k ≤ 1000000 := by have := hlen.out; omega
    rcases Nat.eq_zero_or_pos k with h0 | h0
    · subst h0
      have e := upL_out (d := d) (lt := lt) g l' 0 (.inl rfl)
      rw [hu.out] at e
      replace e := Lib.hid e
      go_wp2
      go_end0
      exact ⟨rfl, by rw [e.out]; exact hS.out, hK.out⟩
    · have hpk : par k < k := by unfold par; omega
      have hpi : ((k : Int) - 1) / 2 = ((par k : Nat) : Int) := by unfold par; omega
      have hne : (((par k : Nat) : Int) == (k : Int)) = false := by rw [beq_eq_false_iff_ne]; omega
      have L := less.out
      have LS := fun x => less.out (more wr x) a l' k (par k) hk (by omega) (PM.out _ _ _ _ hS.out)
      have LS0 := less.out wr a l' k (par k) hk (by omega) hS.out
      have SW := fun x => swap.out (more wr x) a l' (par k) k (by omega) hk (PM.out _ _ _ _ hS.out)
      clear L
      cases hl : lt (nth d l' k) (nth d l' (par k)) with
      | false =>
        rw [hl] at LS0
        replace LS0 := Lib.hid LS0
        have e := upL_out (d := d) (lt := lt) g l' k (.inr hl)
        rw [hu.out] at e
        replace e := Lib.hid e
        clear hl LS
        replace SW := Lib.hid SW
        go_wp2_with fail
        refine LS0.out.mono' ?_; intro x
        go_wp2
        go_end0
        exact ⟨rfl, by rw [e.out]; exact PM.out _ _ _ _ hS.out, hK.out.trans' (keeps_more _ _ _ _)⟩
      | true =>
        rw [hl] at LS0
        replace LS0 := Lib.hid LS0
        obtain ⟨g', rfl⟩ : ∃ g', g = g' + 1 := ⟨g - 1, by omega⟩
        have e : upL lt d (g' + 1) l' k = upL lt d g' (swp l' (par k) k) (par k) := by
          conv => lhs; unfold upL
          rw [if_neg (by omega), if_pos hl]
        rw [hu.out] at e
        replace e := Lib.hid e
        clear hl LS
        replace SW := Lib.hid SW
        go_wp2_with fail
        refine LS0.out.mono' ?_; intro x
        go_wp2_with fail
        refine (SW.out _).mono ?_
        rintro e1 w1 ⟨rfl, hS1, hK1⟩
        replace hS1 := Lib.hid hS1
        replace hK1 := Lib.hid hK1
        go_wp2
        refine ⟨⟨par k, g', swp l' (par k) k, rfl, by rw [swp_length]; omega, by omega, Lib.hid (by rw [swp_length]; exact hlen.out), Lib.hid e.out.symm, hS1, Lib.hid (hK.out.trans' ((keeps_more _ _ _ _).trans' hK1.out))⟩, by simp [intOf]; omega⟩
set_option maxHeartbeats 4000000 in
theorem down_any (P : Pile lt d T hp fLen fLess fSwap fPush fPop p iv S) (a : Option Nat) (l : List α) (i n f : Nat) (w : World) (hi : i < l.length) (hn : n ≤ l.length) (hf : n ≤ i + f) (hs : S w a l) :
    Calls Try.prog 111 #[.iface T hp, .int .i64 i, .int .i64 n] w fun e w' => ∃ b, e = .returned (.bool b) ∧ S w' a (downL lt d f l i n) ∧ Keeps p a w w' := by
  have hb := P.bound w a l hs
  have mLess := P.mLess
  have mSwap := P.mSwap
  have eLess := P.eLess
  have eSwap := P.eSwap
  have less := Lib.hid P.less
  have swap := Lib.hid P.swap
  have PM := Lib.hid P.more
  replace hs := Lib.hid hs
  clear P
  go_enter Try.func111, Try.ntmps111
  go_wp2
  go_loopw [7, 8, 9, 10] (fun t _ _ _ wr => ∃ (k g : Nat) (l' : List α), t = .int .i64 k ∧ k < l'.length ∧ k ≤ n + i ∧ n ≤ k + g ∧ Hid (l'.length = l.length) ∧ Hid (downL lt d g l' k n = downL lt d f l i n) ∧ Hid (S wr a l') ∧ Hid (Keeps p a w wr)) (fun t _ _ _ _ => n + i - (intOf t).toNat)
  case atStart => exact ⟨i, f, l, rfl, hi, by omega, hf, Lib.hid rfl, Lib.hid rfl, hs, Lib.hid (Keeps.refl _ _ _)⟩
  case round =>
    obtain ⟨k, g, l', rfl, hk, hkn, hg, hlen, hu, hS, hK⟩ := hrel
    have hk6 : k ≤ 1000000 := by have := hlen.out; omega
    have hn6 : n ≤ 1000000 := by omega
    by_cases hc : n ≤ 2 * k + 1
    · have hc' : (n : Int) ≤ 2 * (k : Int) + 1 := by omega
      have e := downL_end (d := d) (lt := lt) g l' k n (.inl hc)
      rw [hu.out] at e
      replace e := Lib.hid e
      go_wp2
      go_ret
      exact ⟨_, rfl, by rw [e.out]; exact hS.out, hK.out⟩
    · have hc' : ¬ (n : Int) ≤ 2 * (k : Int) + 1 := by omega
      have hz : ¬ (2 * (k : Int) + 1 < 0) := by omega
      have hlen' := hlen.out
      obtain ⟨g', rfl⟩ : ∃ g', g = g' + 1 := ⟨g - 1, by omega⟩
      have hkd : kid lt d l' k n = if 2 * k + 2 < n ∧ lt (nth d l' (2 * k + 2)) (nth d l' (2 * k + 1)) = true then 2 * k + 2 else 2 * k + 1 := rfl
      have hE : lt (nth d l' (kid lt d l' k n)) (nth d l' k) = false → Hid (downL lt d f l i n = l') := fun h => by
        have e := downL_end (d := d) (lt := lt) (g' + 1) l' k n (.inr h)
        rw [hu.out] at e
        exact Lib.hid e
      have hD : lt (nth d l' (kid lt d l' k n)) (nth d l' k) = true → Hid (downL lt d g' (swp l' k (kid lt d l' k n)) (kid lt d l' k n) n = downL lt d f l i n) := fun h => by
        have e : downL lt d (g' + 1) l' k n = downL lt d g' (swp l' k (kid lt d l' k n)) (kid lt d l' k n) n := by
          conv => lhs; unfold downL
          rw [if_neg (by omega), if_pos h]
        rw [hu.out] at e
        exact Lib.hid e.symm
      have bd := kid_bd lt d l' k n (by omega)
      have c1 : 2 * (k : Int) + 1 = ((2 * k + 1 : Nat) : Int) := by omega
      have c2 : 2 * (k : Int) + 1 + 1 = ((2 * k + 2 : Nat) : Int) := by omega
      -- what follows the choice of the child
      by_cases h2 : 2 * k + 2 < n
      · have h2' : 2 * (k : Int) + 1 + 1 < (n : Int) := by omega
        have LS0 := less.out wr a l' (2 * k + 2) (2 * k + 1) (by omega) (by omega) hS.out
        rw [← c1, ← c2] at LS0
        cases hl : lt (nth d l' (2 * k + 2)) (nth d l' (2 * k + 1)) with
        | true =>
          rw [if_pos ⟨h2, hl⟩] at hkd
          rw [hkd] at hE hD bd
          rw [hl] at LS0
          replace LS0 := Lib.hid LS0
          have LS1 := fun x => less.out (more wr x) a l' (2 * k + 2) k (by omega) hk (PM.out _ _ _ _ hS.out)
          have SW1 := fun x => swap.out (more wr x) a l' k (2 * k + 2) hk (by omega) (PM.out _ _ _ _ hS.out)
          rw [← c2] at LS1 SW1
          cases hl1 : lt (nth d l' (2 * k + 2)) (nth d l' k) with
          | false =>
            have e := hE hl1
            rw [hl1] at LS1
            replace LS1 := Lib.hid LS1
            replace SW1 := Lib.hid SW1
            clear hE hD hkd c1 c2 hl hl1
            go_wp2_with fail
            refine LS0.out.mono' ?_; intro x1
            go_wp2_with fail
            refine (LS1.out _).mono' ?_; intro x2
            go_wp2
            go_ret
            exact ⟨_, rfl, by rw [e.out]; exact PM.out _ _ _ _ hS.out, hK.out.trans' (keeps_more _ _ _ _)⟩
          | true =>
            have e := hD hl1
            rw [hl1] at LS1
            replace LS1 := Lib.hid LS1
            replace SW1 := Lib.hid SW1
            clear hE hD hkd c1 c2 hl hl1
            go_wp2_with fail
            refine LS0.out.mono' ?_; intro x1
            go_wp2_with fail
            refine (LS1.out _).mono' ?_; intro x2
            go_wp2_with fail
            refine (SW1.out _).mono ?_
            rintro e1 w1 ⟨rfl, hS1, hK1⟩
            replace hS1 := Lib.hid hS1
            replace hK1 := Lib.hid hK1
            go_wp2
            refine ⟨⟨2 * k + 2, g', swp l' k (2 * k + 2), by go_num, by rw [swp_length]; omega, by omega, by omega, Lib.hid (by rw [swp_length]; exact hlen.out), e, hS1, Lib.hid (hK.out.trans' ((keeps_more _ _ _ _).trans' hK1.out))⟩, by simp [intOf]; omega⟩
        | false =>
          rw [if_neg (fun h => by rw [hl] at h; exact absurd h.2 (by decide))] at hkd
          rw [hkd] at hE hD bd
          rw [hl] at LS0
          replace LS0 := Lib.hid LS0
          have LS1 := fun x => less.out (more wr x) a l' (2 * k + 1) k (by omega) hk (PM.out _ _ _ _ hS.out)
          have SW1 := fun x => swap.out (more wr x) a l' k (2 * k + 1) hk (by omega) (PM.out _ _ _ _ hS.out)
          rw [← c1] at LS1 SW1
          cases hl1 : lt (nth d l' (2 * k + 1)) (nth d l' k) with
          | false =>
            have e := hE hl1
            rw [hl1] at LS1
            replace LS1 := Lib.hid LS1
            replace SW1 := Lib.hid SW1
            clear hE hD hkd c1 c2 hl hl1
            go_wp2_with fail
            refine LS0.out.mono' ?_; intro x1
            go_wp2_with fail
            refine (LS1.out _).mono' ?_; intro x2
            go_wp2
            go_ret
            exact ⟨_, rfl, by rw [e.out]; exact PM.out _ _ _ _ hS.out, hK.out.trans' (keeps_more _ _ _ _)⟩
          | true =>
            have e := hD hl1
            rw [hl1] at LS1
            replace LS1 := Lib.hid LS1
            replace SW1 := Lib.hid SW1
            clear hE hD hkd c1 c2 hl hl1
            go_wp2_with fail
            refine LS0.out.mono' ?_; intro x1
            go_wp2_with fail
            refine (LS1.out _).mono' ?_; intro x2
            go_wp2_with fail
            refine (SW1.out _).mono ?_
            rintro e1 w1 ⟨rfl, hS1, hK1⟩
            replace hS1 := Lib.hid hS1
            replace hK1 := Lib.hid hK1
            go_wp2
            refine ⟨⟨2 * k + 1, g', swp l' k (2 * k + 1), by go_num, by rw [swp_length]; omega, by omega, by omega, Lib.hid (by rw [swp_length]; exact hlen.out), e, hS1, Lib.hid (hK.out.trans' ((keeps_more _ _ _ _).trans' hK1.out))⟩, by simp [intOf]; omega⟩
      · have h2' : ¬ 2 * (k : Int) + 1 + 1 < (n : Int) := by omega
        rw [if_neg (fun h => h2 h.1)] at hkd
        rw [hkd] at hE hD bd
        have LS1 := less.out wr a l' (2 * k + 1) k (by omega) hk hS.out
        have SW1 := fun x => swap.out (more wr x) a l' k (2 * k + 1) hk (by omega) (PM.out _ _ _ _ hS.out)
        rw [← c1] at LS1 SW1
        cases hl1 : lt (nth d l' (2 * k + 1)) (nth d l' k) with
        | false =>
          have e := hE hl1
          rw [hl1] at LS1
          replace LS1 := Lib.hid LS1
          replace SW1 := Lib.hid SW1
          clear hE hD hkd c1 c2 hl1
          go_wp2_with fail
          refine LS1.out.mono' ?_; intro x1
          go_wp2
          go_ret
          exact ⟨_, rfl, by rw [e.out]; exact PM.out _ _ _ _ hS.out, hK.out.trans' (keeps_more _ _ _ _)⟩
        | true =>
          have e := hD hl1
          rw [hl1] at LS1
          replace LS1 := Lib.hid LS1
          replace SW1 := Lib.hid SW1
          clear hE hD hkd c1 c2 hl1
          go_wp2_with fail
          refine LS1.out.mono' ?_; intro x1
          go_wp2_with fail
          refine (SW1.out _).mono ?_
          rintro e1 w1 ⟨rfl, hS1, hK1⟩
          replace hS1 := Lib.hid hS1
          replace hK1 := Lib.hid hK1
          go_wp2
          refine ⟨⟨2 * k + 1, g', swp l' k (2 * k + 1), by go_num, by rw [swp_length]; omega, by omega, by omega, Lib.hid (by rw [swp_length]; exact hlen.out), e, hS1, Lib.hid (hK.out.trans' ((keeps_more _ _ _ _).trans' hK1.out))⟩, by simp [intOf]; omega⟩
end
end Go.Proofs.Ytilpgojkbgbinaa
