/- container/heap: Init, Push, Pop, over whatever pile. -/
import Derived.Test.YtilpgojkbgbinaaHeapC
set_option maxRecDepth 100000
set_option linter.unusedVariables false
set_option linter.unusedSimpArgs false
namespace Go.Proofs.Ytilpgojkbgbinaa
open Go.RowKit
attribute [local go_sem] run_frombits run_tobits more_more more_drew more_drewN more_size more_cell more_frozen run_store_float lt_c1 le_c1 lt_s1 le_s1 lt_c2 le_c2 lt_s2 le_s2 lt_c3 le_c3 lt_s3 le_s3 lt_c4 le_c4 lt_s4 le_s4 lt_c5 le_c5 lt_s5 le_s5 lt_c6 le_c6 lt_s6 le_s6 lt_c7 le_c7 lt_s7 le_s7 lt_c8 le_c8 lt_s8 le_s8 lt_c9 le_c9 lt_s9 le_s9 lt_c10 le_c10 lt_s10 le_s10 lt_c11 le_c11 lt_s11 le_s11 lt_c12 le_c12 lt_s12 le_s12 le_c0

section
variable {α : Type} {lt : α → α → Bool} {d : α} {T : TypeId} {hp : Value} {fLen fLess fSwap fPush fPop : FuncId} {p : Nat} {iv : α → Value} {S : World → Option Nat → List α → Prop}
set_option maxHeartbeats 2000000 in
theorem init_any (P : Pile lt d T hp fLen fLess fSwap fPush fPop p iv S) (a : Option Nat) (l : List α) (w : World) (hs : S w a l) :
    Calls Try.prog 93 #[.iface T hp] w fun e w' => e = .returned (.tuple #[]) ∧ S w' a (initL lt d (l.length / 2) l) ∧ Keeps p a w w' := by
  have hb := P.bound w a l hs
  have mLen := P.mLen
  have eLen := P.eLen
  have LN := Lib.hid (P.len w a l hs)
  have DN := Lib.hid (fun w' l' (i n f : Nat) => down_any P a l' i n f w')
  replace hs := Lib.hid hs
  clear P
  go_enter Try.func93, Try.ntmps93
  go_wp2_with fail
  refine LN.out.mono ?_; rintro e w' ⟨rfl, rfl⟩
  go_wp2
  go_loopw [3] (fun t wr => ∃ (m : Nat) (l' : List α), t = .int .i64 ((m : Int) - 1) ∧ 2 * m ≤ l.length ∧ Hid (l'.length = l.length) ∧ Hid (initL lt d m l' = initL lt d (l.length / 2) l) ∧ Hid (S wr a l') ∧ Hid (Keeps p a w wr)) (fun t _ => (intOf t + 1).toNat)
  case atStart => exact ⟨l.length / 2, l, by go_num, by omega, Lib.hid rfl, Lib.hid rfl, hs, Lib.hid (Keeps.refl _ _ _)⟩
  case round =>
    obtain ⟨m, l', rfl, hm, hlen, hu, hS, hK⟩ := hrel
    rcases Nat.eq_zero_or_pos m with h0 | h0
    · subst h0
      have e : l' = initL lt d (l.length / 2) l := hu.out
      replace e := Lib.hid e
      go_wp2
      go_end0
      exact ⟨rfl, by rw [← e.out]; exact hS.out, hK.out⟩
    · obtain ⟨k, rfl⟩ : ∃ k, m = k + 1 := ⟨m - 1, by omega⟩
      have e : initL lt d k (downL lt d l'.length l' k l'.length) = initL lt d (l.length / 2) l := hu.out
      rw [hlen.out] at e
      replace e := Lib.hid e
      have D := DN.out wr l' k l.length l.length (by rw [hlen.out]; omega) (by rw [hlen.out]; omega) (by omega) hS.out
      replace D := Lib.hid D
      have hk : (((k + 1 : Nat) : Int) - 1) = (k : Int) := by omega
      go_wp2_with fail
      refine D.out.mono ?_
      rintro e1 w1 ⟨b, rfl, hS1, hK1⟩
      replace hS1 := Lib.hid hS1
      replace hK1 := Lib.hid hK1
      go_wp2
      refine ⟨⟨k, _, by go_num, by omega, Lib.hid (by rw [downL_length]; exact hlen.out), e, hS1, Lib.hid (hK.out.trans' hK1.out)⟩, by simp [intOf]⟩
set_option maxHeartbeats 2000000 in
theorem pop_any (P : Pile lt d T hp fLen fLess fSwap fPush fPop p iv S) (a : Option Nat) (l : List α) (hl : 0 < l.length) (w : World) (hs : S w a l) :
    Calls Try.prog 90 #[.iface T hp] w fun e w' => e = .returned (iv (nth d l 0)) ∧ S w' a ((popL lt d l).take (l.length - 1)) ∧ Keeps p a w w' := by
  have hb := P.bound w a l hs
  have mLen := P.mLen
  have eLen := P.eLen
  have mSwap := P.mSwap
  have eSwap := P.eSwap
  have mPop := P.mPop
  have ePop := P.ePop
  have LN := Lib.hid (P.len w a l hs)
  have e0 : ((0 : Nat) : Int) = 0 := rfl
  have SW := P.swap w a l 0 (l.length - 1) hl (by omega) hs
  have PO := Lib.hid P.pop
  have DN := Lib.hid (fun w' l' (i n f : Nat) => down_any P a l' i n f w')
  have hsplit := Lib.hid (show popL lt d l = (popL lt d l).take (l.length - 1) ++ [nth d l 0] by
    have e := popL_last (lt := lt) d l hl
    have hlen := popL_length (lt := lt) d l
    rw [nth_get d _ _ (by rw [hlen]; omega)] at e
    conv => lhs; rw [← List.take_append_drop (l.length - 1) (popL lt d l)]
    rw [List.drop_eq_getElem_cons (by rw [hlen]; omega), List.drop_eq_nil_of_le (by rw [hlen]; omega), e])
  have hlm : ((l.length : Int) - 1) = ((l.length - 1 : Nat) : Int) := by omega
  rw [e0] at SW
  rw [← hlm] at SW
  replace SW := Lib.hid SW
  replace hs := Lib.hid hs
  replace hlm := Lib.hid hlm
  clear P e0
  go_enter Try.func90, Try.ntmps90
  go_wp2_with fail
  refine LN.out.mono ?_; rintro e w' ⟨rfl, rfl⟩
  go_wp2_with fail
  refine SW.out.mono ?_
  rintro e1 w1 ⟨rfl, hS1, hK1⟩
  have D := DN.out w1 _ 0 (l.length - 1) (l.length - 1) (by rw [swp_length]; omega) (by rw [swp_length]; omega) (by omega) hS1
  rw [← hlm.out] at D
  replace D := Lib.hid (show Calls Try.prog 111 #[.iface T hp, .int .i64 0, .int .i64 ((l.length : Int) - 1)] w1 _ from D)
  replace hK1 := Lib.hid hK1
  go_wp2_with fail
  refine D.out.mono ?_
  rintro e2 w2 ⟨b, rfl, hS2, hK2⟩
  have Q := PO.out w2 a ((popL lt d l).take (l.length - 1)) (nth d l 0) (by rw [← hsplit.out]; exact hS2)
  replace Q := Lib.hid Q
  replace hK2 := Lib.hid hK2
  go_wp2_with fail
  refine Q.out.mono ?_
  rintro e3 w3 ⟨rfl, hS3, hK3⟩
  go_wp2
  go_ret
  exact ⟨rfl, hS3, (hK1.out.trans' hK2.out).trans' hK3⟩
set_option maxHeartbeats 2000000 in
theorem push_any (P : Pile lt d T hp fLen fLess fSwap fPush fPop p iv S) (a : Option Nat) (l : List α) (x : α) (hl : l.length + 1 ≤ 1000000) (w : World) (hs : S w a l) :
    Calls Try.prog 89 #[.iface T hp, iv x] w fun e w' => e = .returned (.tuple #[]) ∧ ∃ a', S w' a' (pushL lt d l x) ∧ Fresh w a a' ∧ Keeps p a w w' := by
  have mLen := P.mLen
  have eLen := P.eLen
  have mPush := P.mPush
  have ePush := P.ePush
  have PU := Lib.hid (P.push w a l x hl hs)
  have LN := Lib.hid P.len
  have UP := Lib.hid (fun w' a' l' (j f : Nat) => up_any P a' l' j f w')
  generalize iv x = xv at *
  replace hs := Lib.hid hs
  clear P
  go_enter Try.func89, Try.ntmps89
  go_wp2_with fail
  refine PU.out.mono ?_
  rintro e1 w1 ⟨rfl, a1, hS1, hF1, hK1⟩
  have L1 := LN.out w1 a1 _ hS1
  rw [List.length_append, List.length_cons, List.length_nil] at L1
  have U1 := UP.out w1 a1 _ l.length l.length (by simp) (Nat.le_refl _) hS1
  replace L1 := Lib.hid L1
  replace U1 := Lib.hid U1
  replace hK1 := Lib.hid hK1
  replace hF1 := Lib.hid hF1
  clear hS1
  go_wp2_with fail
  refine L1.out.mono ?_; rintro e w' ⟨rfl, rfl⟩
  go_wp2_with fail
  refine U1.out.mono ?_
  rintro e2 w2 ⟨rfl, hS2, hK2⟩
  go_wp2
  go_end0
  exact ⟨rfl, a1, hS2, hF1.out, hK1.out.trans hK2 hF1.out⟩
end
end Go.Proofs.Ytilpgojkbgbinaa
