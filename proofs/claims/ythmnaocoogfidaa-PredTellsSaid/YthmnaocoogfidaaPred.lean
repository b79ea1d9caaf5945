/- Package pred: what holds. -/
import Derived.Test.YthmnaocoogfidaaVal3
import Derived.Test.YthmnaocoogfidaaOwn
set_option maxRecDepth 100000
set_option linter.unusedVariables false
set_option linter.unusedSimpArgs false
namespace Go.Proofs.Ythmnaocoogfidaa
open Go.RowKit
attribute [local go_sem] run_frombits run_tobits more_more more_drew more_drewN more_size more_cell more_frozen run_store_float lt_c1 le_c1 lt_s1 le_s1 lt_c2 le_c2 lt_s2 le_s2 lt_c3 le_c3 lt_s3 le_s3 lt_c4 le_c4 lt_s4 le_s4 lt_c5 le_c5 lt_s5 le_s5 lt_c6 le_c6 lt_s6 le_s6 lt_c7 le_c7 lt_s7 le_s7 lt_c8 le_c8 lt_s8 le_s8 lt_c9 le_c9 lt_s9 le_s9 lt_c10 le_c10 lt_s10 le_s10 lt_c11 le_c11 lt_s11 le_s11 lt_c12 le_c12 lt_s12 le_s12 le_c0 run_cmpstring

/-- a text begins with another -/
def begB (s p : ByteArray) : Bool := decide (p.size ≤ s.size) && ((s.extract 0 p.size).toList == p.toList)
set_option maxHeartbeats 800000 in
theorem hasprefix_any (s p : ByteArray) (w : World) (ls : s.size ≤ 9223372036854775807) :
    Calls Try.prog 62 #[.string s, .string p] w fun e w' => e = .returned (.bool (begB s p)) ∧ w = w' := by
  by_cases h : p.size ≤ s.size
  · have h' : (p.size : Int) ≤ (s.size : Int) := by omega
    have e : begB s p = ((s.extract 0 p.size).toList == p.toList) := by unfold begB; rw [decide_eq_true h, Bool.true_and]
    rw [e]
    clear e
    go_enter Try.func62, Try.ntmps62
    go_wp2
    go_ret
    exact ⟨rfl, rfl⟩
  · have h' : ¬ (p.size : Int) ≤ (s.size : Int) := by omega
    have e : begB s p = false := by unfold begB; rw [decide_eq_false h, Bool.false_and]
    rw [e]
    clear e
    go_enter Try.func62, Try.ntmps62
    go_wp2
    go_ret
    exact ⟨rfl, rfl⟩
/-- a predicate as Go has it -/
def predV (f op : Int) (v : Val) : Value := .agg #[.int .i64 f, .int .i64 op, .int .i64 v.k, .int .i64 v.i, .string v.s, .float .f64 v.f]
def opB (op : Int) (a v : Val) : Bool :=
  if op = 1 then cmpV a v == 0 else if op = 2 then decide (cmpV a v < 0) else if op = 3 then decide (cmpV a v ≤ 0) else if op = 4 then decide (0 < cmpV a v) else if op = 5 then decide (0 ≤ cmpV a v)
  else if op = 6 then (a.k == 3 && v.k == 3) && begB a.s v.s else false
def holdsB (f op : Int) (v : Val) (l : List Val) : Bool :=
  if h : 0 ≤ f ∧ f < l.length then opB op (l[f.toNat]'(by omega)) v else false
set_option maxHeartbeats 4000000 in
theorem holds_any (f op : Int) (v : Val) (hv : v.ok) (A : Option Addr) (ca : Nat) (l : List Val) (hl : allOk l) (w : World) (la : l.length ≤ 9223372036854775807) (ha : ValsIn w A l) :
    Gives Try.prog 20 #[predV f op v, .slice A l.length ca] w (.bool (holdsB f op v l)) := by
  by_cases hf : 0 ≤ f ∧ f < l.length
  · obtain ⟨f1, f2⟩ := hf
    obtain ⟨k, rfl⟩ := Int.eq_ofNat_of_zero_le f1
    have h1 : k < l.length := by omega
    have e : holdsB k op v l = opB op l[k] v := by unfold holdsB; rw [dif_pos ⟨f1, f2⟩]; rfl
    rw [e]
    clear e
    obtain ⟨b, off, rfl, hb, hcb⟩ := ha k h1
    obtain ⟨c0, c1, c2, c3⟩ := hcb k h1
    clear hcb
    have okA : l[k].ok := hl _ (List.getElem_mem h1)
    have C0 := fun y => (more_cell w y _ hb).trans c0
    have C1 := fun y => (more_cell w y _ hb).trans c1
    have C2 := fun y => (more_cell w y _ hb).trans c2
    have C3 := fun y => (more_cell w y _ hb).trans c3
    clear c0 c1 c2 c3
    have D0 := fun o => (alloc_is w o) ▸ C0 ⟨#[o], w.drawn⟩
    have D1 := fun o => (alloc_is w o) ▸ C1 ⟨#[o], w.drawn⟩
    have D2 := fun o => (alloc_is w o) ▸ C2 ⟨#[o], w.drawn⟩
    have D3 := fun o => (alloc_is w o) ▸ C3 ⟨#[o], w.drawn⟩
    have CM := fun W => comparev_any l[k] v okA hv W
    generalize l[k] = a at *
    have HP := fun W => hasprefix_any a.s v.s W okA.2.2.2
    have hO : ∀ op, opB op a v = if op = 1 then cmpV a v == 0 else if op = 2 then decide (cmpV a v < 0) else if op = 3 then decide (cmpV a v ≤ 0) else if op = 4 then decide (0 < cmpV a v) else if op = 5 then decide (0 ≤ cmpV a v) else if op = 6 then (a.k == 3 && v.k == 3) && begB a.s v.s else false := fun _ => rfl
    generalize cmpV a v = c at *
    generalize begB a.s v.s = bg at *
    obtain ⟨ak, ai, ast, af⟩ := a
    obtain ⟨bk, bi, bst, bf⟩ := v
    unfold Val.v at *
    unfold predV
    dsimp only at *
    replace CM := Lib.hid CM
    replace HP := Lib.hid HP
    replace hO := Lib.hid hO
    clear okA hv hl ha
    go_enter Try.func20, Try.ntmps20
    go_wp2_with fail
    refine (CM.out _).mono' ?_; intro x
    go_wp2_with (first | (go_at_call 62; refine (HP.out _).mono ?_; rintro e w' ⟨rfl, rfl⟩) | fail)
    all_goals
      go_ret
      refine ⟨ret_bool ?_, (more_of_below (by repeat (first | (with_reducible exact Below.refl _ _) | (with_reducible refine Below.drew ?_) | (with_reducible refine Below.alloc ?_ (by simp [more_size]; try omega) _) | (with_reducible refine Below.setCell ?_ (by simp [more_size]; try omega) _) | (with_reducible refine below_more ?_ _ (by simp [more_size]; try omega)))))⟩
      rw [hO.out]
      clear hO CM HP C0 C1 C2 C3 D0 D1 D2 D3
      simp only [beq_iff_eq, beq_eq_false_iff_ne] at *
      simp [*]
  · have e : holdsB f op v l = false := by unfold holdsB; rw [dif_neg hf]
    rw [e]
    clear e
    obtain ⟨bk, bi, bst, bf⟩ := v
    unfold predV
    rcases (show f < 0 ∨ (0 ≤ f ∧ (l.length : Int) ≤ f) by omega) with q | ⟨q1, q2⟩
    · clear hf
      go_enter Try.func20, Try.ntmps20
      go_wp2
      go_ret
      exact ⟨rfl, (more_of_below (by repeat (first | (with_reducible exact Below.refl _ _) | (with_reducible refine Below.drew ?_) | (with_reducible refine Below.alloc ?_ (by simp [more_size]; try omega) _) | (with_reducible refine Below.setCell ?_ (by simp [more_size]; try omega) _) | (with_reducible refine below_more ?_ _ (by simp [more_size]; try omega)))))⟩
    · clear hf
      go_enter Try.func20, Try.ntmps20
      go_wp2
      go_ret
      exact ⟨rfl, (more_of_below (by repeat (first | (with_reducible exact Below.refl _ _) | (with_reducible refine Below.drew ?_) | (with_reducible refine Below.alloc ?_ (by simp [more_size]; try omega) _) | (with_reducible refine Below.setCell ?_ (by simp [more_size]; try omega) _) | (with_reducible refine below_more ?_ _ (by simp [more_size]; try omega)))))⟩
end Go.Proofs.Ythmnaocoogfidaa
