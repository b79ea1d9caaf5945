/- The document's rows: their memory; where a number stands. -/
import Derived.Test.YtilpgojkbgbinaaVsame
set_option maxRecDepth 100000
set_option linter.unusedVariables false
set_option linter.unusedSimpArgs false
namespace Go.Proofs.Ytilpgojkbgbinaa
open Go.RowKit
open Go.Maps (has size Keyed int_keyed keyOf_int_mk)
attribute [local go_sem] run_frombits run_tobits more_more more_drew more_drewN more_size more_cell more_frozen run_store_float lt_c1 le_c1 lt_s1 le_s1 lt_c2 le_c2 lt_s2 le_s2 lt_c3 le_c3 lt_s3 le_s3 lt_c4 le_c4 lt_s4 le_s4 lt_c5 le_c5 lt_s5 le_s5 lt_c6 le_c6 lt_s6 le_s6 lt_c7 le_c7 lt_s7 le_s7 lt_c8 le_c8 lt_s8 le_s8 lt_c9 le_c9 lt_s9 le_s9 lt_c10 le_c10 lt_s10 le_s10 lt_c11 le_c11 lt_s11 le_s11 lt_c12 le_c12 lt_s12 le_s12 le_c0
/-- a row of the document's: its values lie in blocks of G, none of which is the store's own -/
structure RV (w : World) (G : Nat → Prop) (pr : Nat) (s : Slt) : Prop where
  nil : s.A = none → s.cap = 0 ∧ s.vals.length = 0
  len : s.vals.length ≤ 1000
  vals : ValsIn w s.A s.vals
  at_ : ∀ x, s.A = some x → G x.block ∧ x.block ≠ pr
/-- the document's store at pr -/
structure RM (w : World) (pr : Nat) (G : Nat → Prop) (A : Option Addr) (cap : Nat) (L : List Slt) (mx nx : Int) : Prop where
  box : Blk w pr #[.slice A L.length cap, .int .i64 mx, .int .i64 nx] 120
  row : w.ownsRow 0 63 3 (.slice A L.length cap) L.length (rowC sltC L)
  vals : ∀ s ∈ L, RV w G pr s
  hp : G pr
  hs : ∀ k, (Value.slice A L.length cap).ownBlock = some k → G k ∧ k ≠ pr
  Glt : ∀ k, G k → k < w.heap.size
section
variable {w w' : World} {pr : Nat} {G G' Y : Nat → Prop} {A : Option Addr} {cap : Nat} {L : List Slt} {mx nx : Int}
theorem RV.same {s : Slt} (h : RV w G pr s) (hs : w.heap.size ≤ w'.heap.size) (hk : ∀ k, G k → k ≠ pr → w'.heap[k]? = w.heap[k]?) (hG : ∀ k, G k → G' k) : RV w' G' pr s :=
  ⟨h.nil, h.len, h.vals.same hs (fun x e => hk _ (h.at_ x e).1 (h.at_ x e).2), fun x e => ⟨hG _ (h.at_ x e).1, (h.at_ x e).2⟩⟩
theorem RM.beside (h : RM w pr G A cap L mx nx) (hc : Chg Y w w') (hY : ∀ k, G k → ¬ Y k) : RM w' pr G A cap L mx nx := by
  have hb : ∀ k, G k → w'.heap[k]? = w.heap[k]? := fun k hk => hc.block k (h.Glt k hk) (hY k hk)
  exact ⟨(hb pr h.hp).trans h.box, own_same h.row (fun k e => hb k (h.hs k e).1), fun s hs => (h.vals s hs).same hc.size (fun k hk _ => hb k hk) (fun _ h => h), h.hp, h.hs, fun k hk => Nat.lt_of_lt_of_le (h.Glt k hk) hc.size⟩
theorem RM.below (h : RM w pr G A cap L mx nx) (hc : Below w.heap.size w w') : RM w' pr G A cap L mx nx :=
  h.beside (Y := fun _ => False) (Chg.of_below hc) (fun _ _ h => h)
theorem RM.kept (h : RM w pr G A cap L mx nx) (hs : w.heap.size ≤ w'.heap.size) (hb : ∀ k, G k → w'.heap[k]? = w.heap[k]?) : RM w' pr G A cap L mx nx :=
  ⟨(hb pr h.hp).trans h.box, own_same h.row (fun k e => hb k (h.hs k e).1), fun s hs2 => (h.vals s hs2).same hs (fun k hk _ => hb k hk) (fun _ h => h), h.hp, h.hs, fun k hk => Nat.lt_of_lt_of_le (h.Glt k hk) hs⟩
/-- the next number turned -/
theorem RM.next' (h : RM w pr G A cap L mx nx) (n : Int) : RM (w.setCell ⟨pr, 2, none⟩ (.int .i64 n)) pr G A cap L mx n ∧ Chg (fun k => k = pr) w (w.setCell ⟨pr, 2, none⟩ (.int .i64 n)) := by
  have hb : ∀ k, k ≠ pr → (w.setCell ⟨pr, 2, none⟩ (.int .i64 n)).heap[k]? = w.heap[k]? := fun k hk => Below.heap_setCell w _ _ k hk
  exact ⟨⟨h.box.set 2 _, own_same h.row (fun k e => hb k (h.hs k e).2), fun s hs => (h.vals s hs).same (by simp [World.setCell]) (fun k _ hn => hb k hn) (fun _ h => h), h.hp, h.hs, fun k hk => Nat.lt_of_lt_of_le (h.Glt k hk) (by simp [World.setCell])⟩, Chg.set _ _ rfl⟩
/-- other rows laid into the box: a row that is new -/
theorem RM.rows (h : RM w pr G A cap L mx nx) {W : World} (hB : Below w.heap.size w W) {A' : Option Addr} {cap' : Nat} {L' : List Slt} (own : W.ownsRow w.heap.size 63 3 (.slice A' L'.length cap') L'.length (rowC sltC L')) (hv : ∀ s ∈ L', s ∈ L ∨ ((s.A = none → s.cap = 0 ∧ s.vals.length = 0) ∧ s.vals.length ≤ 1000 ∧ ValsIn W s.A s.vals ∧ ∀ x, s.A = some x → w.heap.size ≤ x.block ∧ x.block < W.heap.size)) :
    RM (W.setCell ⟨pr, 0, none⟩ (.slice A' L'.length cap')) pr (fun k => G k ∨ (w.heap.size ≤ k ∧ k < W.heap.size)) A' cap' L' mx nx ∧ Chg (fun k => k = pr) w (W.setCell ⟨pr, 0, none⟩ (.slice A' L'.length cap')) := by
  have hpr := h.Glt pr h.hp
  have hb : ∀ k, k ≠ pr → (W.setCell ⟨pr, 0, none⟩ (.slice A' L'.length cap')).heap[k]? = W.heap[k]? := fun k hk => Below.heap_setCell W _ _ k hk
  have hsz : (W.setCell ⟨pr, 0, none⟩ (.slice A' L'.length cap')).heap.size = W.heap.size := by simp [World.setCell]
  refine ⟨⟨(h.box.below hB hpr).set 0 _, own_same (own_lower own (Nat.zero_le _)) (fun k e => hb k (by have := own_ge own k e; omega)), fun s hs => ?_, .inl h.hp, fun k e => ?_, ?_⟩, (Chg.of_below hB).then (Chg.set _ _ rfl)⟩
  · rcases hv s hs with q | ⟨q1, q2, q3, q4⟩
    · exact (h.vals s q).same (by rw [hsz]; exact hB.size) (fun k hk hn => (hb k hn).trans (hB.block k (h.Glt k hk))) (fun _ h => .inl h)
    · exact ⟨q1, q2, q3.same (by rw [hsz]; exact Nat.le_refl _) (fun x e => hb _ (by have := (q4 x e).1; omega)), fun x e => ⟨.inr (q4 x e), by have := (q4 x e).1; omega⟩⟩
  · have := own_ge own k e
    have := own_lt9 own k e
    exact ⟨.inr ⟨by omega, by omega⟩, by omega⟩
  · rintro k (q | ⟨q1, q2⟩)
    · rw [hsz]; exact Nat.lt_of_lt_of_le (h.Glt k q) hB.size
    · rw [hsz]; exact q2
/-- where a number stands -/
def AtK (L : List Slt) (id : Int) (k : Nat) : Prop := k ≤ L.length ∧ (∀ j (h : j < L.length), j < k → L[j].id < id) ∧ ∀ (h : k < L.length), id ≤ L[k].id
def okAt (L : List Slt) (id : Int) (k : Nat) : Bool := (L[k]?.map (fun s => s.id == id)).getD false
set_option maxHeartbeats 4000000 in
theorem at_any9 (h : RM w pr G A cap L mx nx) (id : Int) :
    Calls Try.prog 101 #[.pointer (some ⟨pr, 0, none⟩), .int .i64 id] w fun e w' => ∃ k, e = .returned (.tuple #[.int .i64 (k : Nat), .bool (okAt L id k)]) ∧ AtK L id k ∧ ∃ x, w' = more w x := by
  have c0 : w.cell? ⟨pr, 0, none⟩ = some (.slice A L.length cap) := h.box.cell 0
  obtain ⟨A', cp, e, q1, q2, q3, q4⟩ := own_open h.row
  injection e with e e1 e2
  subst e e2
  have hpl := h.box.lt
  have HC := Lib.hid (show ∀ i (hi : i < L.length), ∃ g, A = some ⟨g, 0, none⟩ ∧ g < w.heap.size ∧ w.cell? ⟨g, i * 3, none⟩ = some (.int .i64 L[i].id) from fun i hi => by
    obtain ⟨g, rfl, _, hg, hc⟩ := q4 (by omega)
    exact ⟨g, rfl, hg, hc (i * 3) _ (by have := rowC_get sltC_len L i 0 hi (by decide); rw [Nat.add_zero] at this; rw [this]; rfl)⟩)
  clear h q4 q3 e1
  go_enter Try.func101, Try.ntmps101
  go_wp2
  go_loop [6] (fun t => ∃ k : Nat, t = .int .i64 k ∧ k ≤ L.length ∧ Hid (∀ j (h : j < L.length), j < k → L[j].id < id)) (fun t => L.length - (intOf t).toNat)
  case atStart => exact ⟨0, rfl, by omega, Lib.hid (fun j h1 h2 => by omega)⟩
  case round =>
    obtain ⟨k, rfl, hk, hlow⟩ := hrel
    by_cases hlt : k < L.length
    · have hlt' : (k : Int) < (L.length : Int) := by omega
      obtain ⟨g, rfl, hg, x0⟩ := HC.out k hlt
      have hstep := Lib.hid (show L[k].id < id → ∀ j (h : j < L.length), j < k + 1 → L[j].id < id from fun e j h1 h2 => by
        rcases Nat.lt_or_ge j k with q | q
        · exact hlow.out j h1 q
        · have : j = k := by omega
          subst this; exact e)
      have hfin := Lib.hid (show ¬ L[k].id < id → AtK L id k ∧ okAt L id k = (L[k].id == id) from fun e => ⟨⟨hk, hlow.out, fun _ => by omega⟩, by unfold okAt; rw [List.getElem?_eq_getElem hlt]; rfl⟩)
      generalize L[k].id = y at *
      by_cases hy : y < id
      · replace hstep := Lib.hid (hstep.out hy)
        clear hfin hlow
        go_wp2
        exact ⟨⟨k + 1, by go_num, by omega, hstep⟩, by simp [intOf]; omega⟩
      · have hy' : (y < id) = False := eq_false hy
        obtain ⟨f1, f2⟩ := hfin.out hy
        replace f1 := Lib.hid f1
        have f3 := Lib.hid f2
        clear hstep hlow hfin hy f2
        go_wp2_with fail
        go_region
        go_wp2
        go_ret2
        exact ⟨k, by rw [f3.out]; rfl, f1.out, (more_of_below (by repeat (first | (with_reducible exact Below.refl _ _) | (with_reducible refine Below.drew ?_) | (with_reducible refine Below.alloc ?_ (by simp [more_size]; try omega) _) | (with_reducible refine Below.setCell ?_ (by simp [more_size]; try omega) _) | (with_reducible refine below_more ?_ _ (by simp [more_size]; try omega)))))⟩
    · have hlt' : ((k : Int) < (L.length : Int)) = False := eq_false (by omega)
      have f1 := Lib.hid (show AtK L id k from ⟨hk, hlow.out, fun h => absurd h hlt⟩)
      have f2 : Hid (okAt L id k = false) := Lib.hid (by unfold okAt; rw [List.getElem?_eq_none (by omega)]; rfl)
      clear hlow hlt
      go_wp2_with fail
      go_region
      go_wp2
      go_ret2
      exact ⟨k, by rw [f2.out]; rfl, f1.out, (more_of_below (by repeat (first | (with_reducible exact Below.refl _ _) | (with_reducible refine Below.drew ?_) | (with_reducible refine Below.alloc ?_ (by simp [more_size]; try omega) _) | (with_reducible refine Below.setCell ?_ (by simp [more_size]; try omega) _) | (with_reducible refine below_more ?_ _ (by simp [more_size]; try omega)))))⟩
end
end Go.Proofs.Ytilpgojkbgbinaa
