/- Package row: what a store holds, in plain words. -/
import Derived.Test.YtilpgojkbgbinaaStoA
set_option maxRecDepth 100000
set_option linter.unusedVariables false
set_option linter.unusedSimpArgs false
namespace Go.Proofs.Ytilpgojkbgbinaa
open Go.RowKit
open Go.Maps (has size Keyed int_keyed keyOf_int_mk Tidy IsMap)
abbrev idL (id : Int) : Lit := .int .i64 id
def upd {α : Type} (g : Int → α) (id : Int) (v : α) : Int → α := fun x => if x = id then v else g x
theorem upd_same {α : Type} (g : Int → α) (id : Int) (v : α) : upd g id v id = v := by simp [upd]
theorem upd_other {α : Type} (g : Int → α) {id x : Int} (v : α) (h : x ≠ id) : upd g id v x = g x := by simp [upd, h]
abbrev Row9 := Int × List Val
structure Log (S : List Slt) (m : List Int) (D : DataW Unit) (g : Int → Option Row9) (n : Nat) (mx nx : Int) : Prop where
  tidy : Tidy D
  sz : size D = n
  cnt : S.length = n + m.length
  le : (S.length : Int) ≤ mx
  mx2 : mx ≤ 200
  nd : m.Nodup
  mS : ∀ x ∈ m, 0 ≤ x ∧ x < (S.length : Int)
  off : ∀ id, g id = none → has D (idL id) = false
  on : ∀ id r, g id = some r → has D (idL id) = true ∧ ∃ (i : Nat) (s : Slt), D.atKey (idL id) (.lit (idL 0)) = .lit (idL i) ∧ S[i]? = some s ∧ s.id = id ∧ s.ver = r.1 ∧ s.vals = r.2 ∧ (i : Int) ∉ m
  rng : ∀ id, g id ≠ none → 1 ≤ id ∧ id < nx
  nx1 : 1 ≤ nx
section
variable {S : List Slt} {m : List Int} {D : DataW Unit} {g : Int → Option Row9} {n : Nat} {mx nx : Int}
theorem keyL (a : Int) : WideAt.IsKeyLit (idL a) := by first | exact trivial | simp [WideAt.IsKeyLit, idL]
theorem idL_ne {a b : Int} (h : a ≠ b) : idL a ≠ idL b := fun e => h (by injection e)
theorem log_new (mx : Int) (h1 : 0 ≤ mx) (h2 : mx ≤ 200) : Log [] [] (.map []) (fun _ => none) 0 mx 1 :=
  ⟨Maps.tidy_empty, rfl, rfl, by simpa using h1, h2, by simp, fun x hx => by simp at hx, fun id _ => rfl, fun id r h => by simp at h, fun id h => absurd rfl h, by omega⟩
theorem Log.free (h : Log S m D g n mx nx) {id ver : Int} {A : Option Addr} {ca : Nat} {l : List Val} {kn : Nat} (hk : (kn : Int) ∈ m) (hg : g id = none) {nx' : Int} (h1 : 1 ≤ id ∧ id < nx') (h2 : nx ≤ nx') :
    Log (S.set kn ⟨id, ver, A, ca, l⟩) (m.erase kn) (D.put (idL id) (.lit (idL kn))) (upd g id (some (ver, l))) (n + 1) mx nx' := by
  have hkS := h.mS _ hk
  have hp := List.length_erase_of_mem hk
  have hm0 : 0 < m.length := List.length_pos_of_mem hk
  refine ⟨h.tidy.put (keyL _) _, ?_, ?_, by simpa using h.le, h.mx2, h.nd.erase _, ?_, ?_, ?_, ?_, by have := h.nx1; omega⟩
  · rw [Maps.size_put h.tidy, h.off id hg, h.sz]; rfl
  · rw [List.length_set, hp, h.cnt]; omega
  · intro x hx; rw [List.length_set]; exact h.mS x (List.mem_of_mem_erase hx)
  · intro x hx
    by_cases e : x = id
    · subst e; rw [upd_same] at hx; cases hx
    · rw [upd_other _ _ e] at hx
      rw [Maps.has_put_other (idL_ne e)]; exact h.off x hx
  · intro x r hx
    by_cases e : x = id
    · subst e; rw [upd_same] at hx
      injection hx with hx; subst hx
      refine ⟨Maps.has_put_same h.tidy.isMap (keyL _) _, kn, ⟨x, ver, A, ca, l⟩, Maps.atKey_put_same h.tidy.isMap (keyL _) _ _, ?_, rfl, rfl, rfl, ?_⟩
      · rw [List.getElem?_set_self (by omega)]
      · exact fun c => absurd (List.Nodup.not_mem_erase h.nd c) id
    · rw [upd_other _ _ e] at hx
      obtain ⟨q1, i, s, q2, q3, q4, q5, q6, q7⟩ := h.on x r hx
      refine ⟨by rw [Maps.has_put_other (idL_ne e)]; exact q1, i, s, by rw [Maps.atKey_put_other (idL_ne e)]; exact q2, ?_, q4, q5, q6, fun c => q7 (List.mem_of_mem_erase c)⟩
      rw [List.getElem?_set_ne (fun c => q7 (by rw [← c]; exact hk))]; exact q3
  · intro x hx
    by_cases e : x = id
    · subst e; exact h1
    · rw [upd_other _ _ e] at hx
      have := h.rng x hx; omega
theorem Log.new (h : Log S [] D g n mx nx) {id ver : Int} {A : Option Addr} {ca : Nat} {l : List Val} (hn : (n : Int) < mx) (hg : g id = none) {nx' : Int} (h1 : 1 ≤ id ∧ id < nx') (h2 : nx ≤ nx') :
    Log (S ++ [⟨id, ver, A, ca, l⟩]) [] (D.put (idL id) (.lit (idL S.length))) (upd g id (some (ver, l))) (n + 1) mx nx' := by
  have hc := h.cnt
  simp at hc
  refine ⟨h.tidy.put (keyL _) _, ?_, ?_, ?_, h.mx2, by simp, fun x hx => by simp at hx, ?_, ?_, ?_, by have := h.nx1; omega⟩
  · rw [Maps.size_put h.tidy, h.off id hg, h.sz]; rfl
  · simp [hc]
  · simp [hc]; omega
  · intro x hx
    by_cases e : x = id
    · subst e; rw [upd_same] at hx; cases hx
    · rw [upd_other _ _ e] at hx
      rw [Maps.has_put_other (idL_ne e)]; exact h.off x hx
  · intro x r hx
    by_cases e : x = id
    · subst e; rw [upd_same] at hx
      injection hx with hx; subst hx
      exact ⟨Maps.has_put_same h.tidy.isMap (keyL _) _, S.length, ⟨x, ver, A, ca, l⟩, Maps.atKey_put_same h.tidy.isMap (keyL _) _ _, by simp, rfl, rfl, rfl, by simp⟩
    · rw [upd_other _ _ e] at hx
      obtain ⟨q1, i, s, q2, q3, q4, q5, q6, q7⟩ := h.on x r hx
      exact ⟨by rw [Maps.has_put_other (idL_ne e)]; exact q1, i, s, by rw [Maps.atKey_put_other (idL_ne e)]; exact q2, by rw [List.getElem?_append_left (List.getElem?_eq_some_iff.1 q3).1]; exact q3, q4, q5, q6, by simp⟩
  · intro x hx
    by_cases e : x = id
    · subst e; exact h1
    · rw [upd_other _ _ e] at hx
      have := h.rng x hx; omega
theorem Log.inj (h : Log S m D g n mx nx) {id x : Int} {i j : Nat} {s t : Slt} (e : x ≠ id) (h1 : S[i]? = some s) (h2 : s.id = id) (h3 : S[j]? = some t) (h4 : t.id = x) : i ≠ j := fun c => by
  subst c; rw [h1] at h3; injection h3 with h3; subst h3; exact e (h4.symm.trans h2)
theorem Log.replace (h : Log S m D g n mx nx) {id ver : Int} {A : Option Addr} {ca : Nat} {l : List Val} {r : Row9} {i : Nat} {s : Slt} (hg : g id = some r) (hi : D.atKey (idL id) (.lit (idL 0)) = .lit (idL i)) (hs : S[i]? = some s) (hid : s.id = id) (him : (i : Int) ∉ m) :
    Log (S.set i ⟨id, ver, A, ca, l⟩) m D (upd g id (some (ver, l))) n mx nx := by
  have hiS := (List.getElem?_eq_some_iff.1 hs).1
  refine ⟨h.tidy, h.sz, by rw [List.length_set]; exact h.cnt, by simpa using h.le, h.mx2, h.nd, by rw [List.length_set]; exact h.mS, ?_, ?_, ?_, h.nx1⟩
  · intro x hx
    by_cases e : x = id
    · subst e; rw [upd_same] at hx; cases hx
    · rw [upd_other _ _ e] at hx; exact h.off x hx
  · intro x q hx
    by_cases e : x = id
    · subst e; rw [upd_same] at hx
      injection hx with hx; subst hx
      exact ⟨(h.on x r hg).1, i, ⟨x, ver, A, ca, l⟩, hi, by rw [List.getElem?_set_self hiS], rfl, rfl, rfl, him⟩
    · rw [upd_other _ _ e] at hx
      obtain ⟨q1, j, t, q2, q3, q4, q5, q6, q7⟩ := h.on x q hx
      exact ⟨q1, j, t, q2, by rw [List.getElem?_set_ne (h.inj e hs hid q3 q4)]; exact q3, q4, q5, q6, q7⟩
  · intro x hx
    by_cases e : x = id
    · subst e; exact h.rng x (by rw [hg]; simp)
    · rw [upd_other _ _ e] at hx; exact h.rng x hx
theorem Log.erase (h : Log S m D g n mx nx) {id : Int} {A : Option Addr} {ca : Nat} {r : Row9} {i : Nat} {s : Slt} (hg : g id = some r) (hi : D.atKey (idL id) (.lit (idL 0)) = .lit (idL i)) (hs : S[i]? = some s) (hid : s.id = id) (him : (i : Int) ∉ m) :
    Log (S.set i ⟨0, 0, A, ca, []⟩) ((i : Int) :: m) (D.del (idL id)) (upd g id none) (n - 1) mx nx ∧ 0 < n := by
  have hiS := (List.getElem?_eq_some_iff.1 hs).1
  have hd := Maps.size_del (k := idL id) h.tidy
  rw [(h.on id r hg).1, if_pos rfl, h.sz] at hd
  refine ⟨⟨h.tidy.del _, by omega, ?_, by simpa using h.le, h.mx2, List.nodup_cons.2 ⟨him, h.nd⟩, ?_, ?_, ?_, ?_, h.nx1⟩, by omega⟩
  · rw [List.length_set, h.cnt, List.length_cons]; omega
  · intro x hx
    rw [List.length_set]
    rcases List.mem_cons.1 hx with rfl | hx
    · omega
    · exact h.mS x hx
  · intro x hx
    by_cases e : x = id
    · subst e; exact Maps.has_del_same
    · rw [upd_other _ _ e] at hx
      rw [Maps.has_del_other (idL_ne e)]; exact h.off x hx
  · intro x q hx
    by_cases e : x = id
    · subst e; rw [upd_same] at hx; cases hx
    · rw [upd_other _ _ e] at hx
      obtain ⟨q1, j, t, q2, q3, q4, q5, q6, q7⟩ := h.on x q hx
      have hij := h.inj e hs hid q3 q4
      refine ⟨by rw [Maps.has_del_other (idL_ne e)]; exact q1, j, t, by rw [Maps.atKey_del_other (idL_ne e)]; exact q2, by rw [List.getElem?_set_ne hij]; exact q3, q4, q5, q6, fun c => ?_⟩
      rcases List.mem_cons.1 c with c | c
      · exact hij (by omega)
      · exact q7 c
  · intro x hx
    by_cases e : x = id
    · subst e; rw [upd_same] at hx; exact absurd rfl hx
    · rw [upd_other _ _ e] at hx; exact h.rng x hx
theorem Log.setNext (h : Log S m D g n mx nx) {nx' : Int} (h1 : 1 ≤ nx') (h2 : ∀ id, g id ≠ none → id < nx') : Log S m D g n mx nx' :=
  { h with rng := fun id hg => ⟨(h.rng id hg).1, h2 id hg⟩, nx1 := h1 }
end
end Go.Proofs.Ytilpgojkbgbinaa
