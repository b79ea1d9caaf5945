/- The document's rows: put. -/
import Derived.Test.YtilpgojkbgbinaaRef9
import Derived.Deep.RegionLaw
set_option maxRecDepth 100000
set_option linter.unusedVariables false
set_option linter.unusedSimpArgs false
namespace Go.Proofs.Ytilpgojkbgbinaa
open Go.RowKit
open Go.Maps (has size Keyed int_keyed keyOf_int_mk)
attribute [local go_sem] run_frombits run_tobits more_more more_drew more_drewN more_size more_cell more_frozen run_store_float lt_c1 le_c1 lt_s1 le_s1 lt_c2 le_c2 lt_s2 le_s2 lt_c3 le_c3 lt_s3 le_s3 lt_c4 le_c4 lt_s4 le_s4 lt_c5 le_c5 lt_s5 le_s5 lt_c6 le_c6 lt_s6 le_s6 lt_c7 le_c7 lt_s7 le_s7 lt_c8 le_c8 lt_s8 le_s8 lt_c9 le_c9 lt_s9 le_s9 lt_c10 le_c10 lt_s10 le_s10 lt_c11 le_c11 lt_s11 le_s11 lt_c12 le_c12 lt_s12 le_s12 le_c0
theorem own_form9 {w : World} {base : Nat} {e : TypeId} {size : Nat} {v : Value} {n : Nat} {xs : List Value} (h : w.ownsRow base e size v n xs) : ∃ A cap, v = .slice A n cap := by
  rcases h.2 with ⟨rfl, rfl⟩ | ⟨g, cap, cur, rfl, _⟩
  · exact ⟨none, 0, rfl⟩
  · exact ⟨_, _, rfl⟩
/-- append of a whole row, nil or not, as one step of a region that draws -/
theorem step_append_row {P : Program} {w : World} {ops : Array Oper} {o : Oper} {a : Act} {K : Act → World → Prop} {Q : Exit → Act → World → Prop} {E : Prop} (hgd : o.guard = none) (s x : Operand) (t : TypeId)
    (ho : o.op = .call { callee := .builtin .append, args := #[s, x], argTypes := #[t, t] })
    (base : Nat) (e : TypeId) (i : TypeInfo) (z : Value) (size bytes : Nat) (ht : P.underlying t = some (.slice e)) (hi : P.info? e = some i) (hz : i.zero = some z)
    (hsize : i.size = size) (hby : i.bytes = bytes) (hzs : z.cells.size = size) (hsz : 0 < size)
    (v : Value) (n : Nat) (xs : List Value) (hs : a.eval s = v) (hown : w.ownsRow base e size v n xs)
    (A : Option Addr) (m c : Nat) (news : List Value) (hx : a.eval x = .slice A m c) (hA : A = none → c = 0 ∧ m = 0) (hl : news.length = m * size) (hnews : ∀ ad, A = some ad → ∀ j u, news[j]? = some u → w.cell? (ad.add j) = some u) (h1 : ∀ u ∈ news, u.oneCell' = true)
    (h63 : n + m ≤ maxLen) (hbytes : (n + m) * bytes ≤ 140737488355328) (hbase : base ≤ w.heap.size)
    (h : ∀ A' cap' w', w'.ownsRow base e size (.slice A' (n + m) cap') (n + m) (xs ++ news) → w.grownBy w' v.ownBlock → ((Value.slice A' (n + m) cap').ownBlock = v.ownBlock ∨ (Value.slice A' (n + m) cap').ownBlock = some w.heap.size) → K (a.put o.dst (.slice A' (n + m) cap')) w') :
    if Region.wanted o (yielded ops a.tmps) = true then Oper.wp P o a w K Q else E := by
  have hw : Region.wanted o (yielded ops a.tmps) = true := by simp [Region.wanted, hgd]
  rw [if_pos hw]
  cases A with
  | none =>
    obtain ⟨rfl, rfl⟩ := hA rfl
    have : news = [] := List.eq_nil_of_length_eq_zero (by rw [hl]; omega)
    subst this
    have hrun := run_append_owned_none (P := P) (w := w) base t o.type e i size ht hi v n xs hown
    obtain ⟨A', cap', rfl⟩ := own_form9 hown
    unfold Oper.wp
    simp [execOp, ho, resolve, invoke, builtin, hs, hx, hrun, Result.andThen]
    exact h A' cap' w (by rw [Nat.add_zero, List.append_nil]; exact hown) ⟨rfl, rfl, rfl, Nat.le_refl _, fun _ _ _ => rfl⟩ (.inl rfl)
  | some ad =>
    obtain ⟨v', w', hr, h2, h3, h4, h5⟩ := run_append_own_at (P := P) w base t o.type e i z size bytes ht hi hz hsize hby hzs hsz v n xs hown ad m c news hl (hnews ad rfl) h1 h63 hbytes hbase
    obtain ⟨A', cap', rfl⟩ := own_form9 h2
    unfold Oper.wp execOp
    simp only [ho, resolve, invoke, builtin, Sem.run_bind, Sem.run_pure, Result.andThen_ok, List.map_toArray, List.map_cons, List.map_nil, hs, hx, hr]
    exact h A' cap' w' h2 h3 h5
variable {w w' : World} {pr : Nat} {G G' Y : Nat → Prop} {A : Option Addr} {cap : Nat} {L : List Slt} {mx nx : Int}
/-- the rows' row, from a place on -/
theorem RM.news (h : RM w pr G A cap L mx nx) (k : Nat) (hk : k ≤ L.length) : ∀ g, A = some ⟨g, 0, none⟩ → ∀ j u, (rowC sltC (L.drop k))[j]? = some u → w.cell? ⟨g, k * 3 + j, none⟩ = some u := by
  obtain ⟨A', cp, e, q1, q2, q3, q4⟩ := own_open h.row
  injection e with e e1 e2
  subst e e2
  intro g hg j u hu
  have hj : j < (rowC sltC (L.drop k)).length := by
    rcases Nat.lt_or_ge j (rowC sltC (L.drop k)).length with q | q
    · exact q
    · rw [List.getElem?_eq_none q] at hu; cases hu
  rw [rowC_length sltC_len, List.length_drop] at hj
  obtain ⟨g2, e2, _, _, hc⟩ := q4 (by omega)
  rw [hg] at e2
  injection e2 with e2
  injection e2 with e2
  subst e2
  have e3 : rowC sltC L = rowC sltC (L.take k) ++ rowC sltC (L.drop k) := by rw [← rowC_append, List.take_append_drop]
  have e4 : (rowC sltC (L.take k)).length = k * 3 := by rw [rowC_length sltC_len, List.length_take]; omega
  refine hc (k * 3 + j) u ?_
  rw [e3, List.getElem?_append_right (by omega), e4, show k * 3 + j - k * 3 = j by omega]
  exact hu
theorem RM.olds (h : RM w pr G A cap L mx nx) (k : Nat) (hk : k ≤ L.length) : ∀ ad, A = some ad → ∀ j u, (rowC sltC (L.take k))[j]? = some u → w.cell? (ad.add j) = some u := by
  obtain ⟨A', cp, e, q1, q2, q3, q4⟩ := own_open h.row
  injection e with e e1 e2
  subst e e2
  intro ad hg j u hu
  have hj : j < (rowC sltC (L.take k)).length := by
    rcases Nat.lt_or_ge j (rowC sltC (L.take k)).length with q | q
    · exact q
    · rw [List.getElem?_eq_none q] at hu; cases hu
  have hj2 := hj
  rw [rowC_length sltC_len, List.length_take] at hj2
  obtain ⟨g2, e2, _, _, hc⟩ := q4 (by omega)
  rw [hg] at e2
  injection e2 with e2
  subst e2
  have e3 : rowC sltC L = rowC sltC (L.take k) ++ rowC sltC (L.drop k) := by rw [← rowC_append, List.take_append_drop]
  rw [Go.WideShapes.add_plain, Nat.zero_add]
  refine hc j u ?_
  rw [e3, List.getElem?_append_left hj]
  exact hu
set_option maxHeartbeats 4000000 in
theorem put_any9 (h : RM w pr G A cap L mx nx) (hL : L.length ≤ 1000) (s : Slt) :
    Calls Try.prog 99 #[.pointer (some ⟨pr, 0, none⟩), .agg #[.int .i64 s.id, .int .i64 s.ver, .slice s.A s.vals.length s.cap]] w fun e w' => e = .returned (.tuple #[]) ∧ ∃ k W A' cap', AtK L s.id k ∧ Below w.heap.size w W ∧ w' = W.setCell ⟨pr, 0, none⟩ (.slice A' (L.length + 1) cap') ∧ W.ownsRow w.heap.size 63 3 (.slice A' (L.length + 1) cap') (L.length + 1) (rowC sltC (L.take k ++ s :: L.drop k)) := by
  obtain ⟨i0, hi, hz0, hz1, hz2⟩ := info_parts info_row
  have AT := Lib.hid (fun W (hB : Below w.heap.size w W) => at_any9 (h.below hB) s.id)
  have hh := Lib.hid h
  have hpr : pr < w.heap.size := h.Glt pr h.hp
  have hcase : (∃ g, A = some ⟨g, 0, none⟩ ∧ g < w.heap.size ∧ g ≠ pr ∧ L.length ≤ cap ∧ cap ≤ 9223372036854775807) ∨ (A = none ∧ cap = 0 ∧ L = []) := by
    rcases h.row.2 with ⟨e, e2⟩ | ⟨g, cp, cur, e, _, hgg, h1, h2, _⟩
    · injection e with e1 _ e3
      exact .inr ⟨e1, e3, List.eq_nil_of_length_eq_zero e2⟩
    · injection e with e1 _ e3
      exact .inl ⟨g, e1, (Array.getElem?_eq_some_iff.1 hgg).1, (h.hs g (by rw [e1]; rfl)).2, by omega, by unfold maxLen at h2; omega⟩
  obtain ⟨sid, sver, sA, scap, svals⟩ := s
  dsimp only at AT ⊢
  clear h
  rcases hcase with ⟨g, rfl, hgl, hgp, hc1, hc2⟩ | ⟨rfl, rfl, rfl⟩
  · go_enter Try.func99, Try.ntmps99
    go_wp2_with fail
    refine (AT.out _ (by repeat (first | (with_reducible exact Below.refl _ _) | (with_reducible refine Below.drew ?_) | (with_reducible refine Below.alloc ?_ (by simp [more_size]; try omega) _) | (with_reducible refine Below.setCell ?_ (by simp [more_size]; try omega) _) | (with_reducible refine below_more ?_ _ (by simp [more_size]; try omega))))).mono ?_
    rintro e w1 ⟨k, rfl, hk, x, rfl⟩
    have hkl := hk.1
    replace hk := Lib.hid hk
    have hB1 : Below w.heap.size w (more (w.alloc (.cells #[.int .i64 sid, .int .i64 sver, .slice sA svals.length scap] 63)) x) := (by repeat (first | (with_reducible exact Below.refl _ _) | (with_reducible refine Below.drew ?_) | (with_reducible refine Below.alloc ?_ (by simp [more_size]; try omega) _) | (with_reducible refine Below.setCell ?_ (by simp [more_size]; try omega) _) | (with_reducible refine below_more ?_ _ (by simp [more_size]; try omega))))
    have hM1 := Lib.hid (hh.out.below hB1)
    have hb1 := Lib.hid ((Blk.new w #[.int .i64 sid, .int .i64 sver, .slice sA svals.length scap] 63 rfl).more x)
    have hsz1 : w.heap.size < (more (w.alloc (.cells #[.int .i64 sid, .int .i64 sver, .slice sA svals.length scap] 63)) x).heap.size := by rw [more_size]; simp; omega
    generalize more (w.alloc (.cells #[.int .i64 sid, .int .i64 sver, .slice sA svals.length scap] 63)) x = W1 at *
    replace hB1 := Lib.hid hB1
    have c0 : W1.cell? ⟨pr, 0, none⟩ = some (.slice (some ⟨g, 0, none⟩) L.length cap) := hM1.out.box.cell 0
    have ol := Lib.hid (hM1.out.olds k hkl)
    have nil := Lib.hid (World.ownsRow_nil W1 W1.heap.size 63 3)
    have hkl' : (k : Int) ≤ (L.length : Int) := by omega
    have hkc : (k : Int) ≤ (cap : Int) := by omega
    have htk : (L.take k).length = k := by rw [List.length_take]; omega
    clear hh AT
    go_wp2_with (first
      | (at_builtin; refine wpList_append_row rfl _ _ 105 rfl W1.heap.size 63 i0 _ 3 40 Try.underlying105 hi hz0 hz1 hz2 rfl (by decide) (.slice none 0 0) 0 [] rfl nil.out (some ⟨g, 0, none⟩) k cap (rowC sltC (L.take k)) rfl (fun e => by cases e) (by rw [rowC_length sltC_len, htk]) ol.out (rowC_one sltC_one _) (by unfold maxLen; omega) (by omega) (Nat.le_refl _) ?_; intro v2 W2 own2 grow2 loc2)
      | fail)
    rw [Nat.zero_add, List.nil_append] at own2
    obtain ⟨A2, c2, rfl⟩ := own_form9 own2
    have hB2 : Below W1.heap.size W1 W2 := ⟨grow2.os, grow2.tape, grow2.output, grow2.size, fun j hj => grow2.block j hj (by simp [Value.ownBlock])⟩
    have FC := Lib.hid (show ∀ V, Below W1.heap.size W1 V → V.cell? ⟨pr, 0, none⟩ = some (.slice (some ⟨g, 0, none⟩) L.length cap) ∧ V.frozen? ⟨pr, 0, none⟩ = false ∧ ∀ j u, (rowC sltC (L.drop k))[j]? = some u → V.cell? ⟨g, k * 3 + j, none⟩ = some u from fun V hV => by
      have q1 : V.heap[pr]? = W1.heap[pr]? := hV.block pr (by omega)
      have q2 : V.heap[g]? = W1.heap[g]? := hV.block g (by omega)
      exact ⟨(World.cell?_of_block (w := W1) (a := ⟨pr, 0, none⟩) q1).trans c0, (World.frozen?_of_block (w := W1) (a := ⟨pr, 0, none⟩) q1).trans (hM1.out.box.free 0), fun j u hu => (World.cell?_of_block (w := W1) (a := ⟨g, k * 3 + j, none⟩) q2).trans (hM1.out.news k hkl g rfl j u hu)⟩)
    have KB := Lib.hid (show ∀ V W3, Below W2.heap.size W2 V → V.grownBy W3 (Value.slice A2 k c2).ownBlock → Below W1.heap.size W1 W3 from fun V W3 h1 h2 => by
      have b1 := hB2.trans (h1.mono hB2.size)
      exact b1.trans ⟨h2.os, h2.tape, h2.output, h2.size, fun j hj => h2.block j (Nat.lt_of_lt_of_le hj b1.size) (fun e => by have := own_ge own2 j e.symm; omega)⟩)
    have KC := Lib.hid (show ∀ W3 W4 A3 c3 xs, Below W1.heap.size W1 W3 → W3.ownsRow W1.heap.size 63 3 (.slice A3 (k + 1) c3) (k + 1) xs → W3.grownBy W4 (Value.slice A3 (k + 1) c3).ownBlock → Below W1.heap.size W1 W4 from fun W3 W4 A3 c3 xs b1 o h2 =>
      b1.trans ⟨h2.os, h2.tape, h2.output, h2.size, fun j hj => h2.block j (Nat.lt_of_lt_of_le hj b1.size) (fun e => by have := own_ge o j e.symm; omega)⟩)
    have hB2s := hB2.size
    have hp2 : pr < W2.heap.size := by omega
    have hb2s : w.heap.size < W2.heap.size := by omega
    have dA : (W2.alloc (.cells #[.int .i64 sid, .int .i64 sver, .slice sA svals.length scap] 63)).cell? ⟨pr, 0, none⟩ = some (.slice (some ⟨g, 0, none⟩) L.length cap) := (FC.out _ (hB2.alloc hB2s _)).1
    have hb2 := hb1.out.below hB2 hsz1
    have r0 : W2.cell? ⟨w.heap.size, 0, none⟩ = some (.int .i64 sid) := hb2.cell 0
    have r1 : W2.cell? ⟨w.heap.size, 1, none⟩ = some (.int .i64 sver) := hb2.cell 1
    have r2 : W2.cell? ⟨w.heap.size, 2, none⟩ = some (.slice sA svals.length scap) := hb2.cell 2
    obtain ⟨d0, e0, _⟩ := FC.out W2 hB2
    have hdr : (rowC sltC (L.drop k)).length = (L.length - k) * 3 := by rw [rowC_length sltC_len, List.length_drop]
    have hlen : k + 1 + (L.length - k) = L.length + 1 := by omega
    have xs4 : rowC sltC (L.take k) ++ sltC ⟨sid, sver, sA, scap, svals⟩ ++ rowC sltC (L.drop k) = rowC sltC (L.take k ++ ⟨sid, sver, sA, scap, svals⟩ :: L.drop k) := by
      rw [rowC_append, List.append_assoc]; rfl
    have fin := Lib.hid (show ∀ W4 A4 c4, Below W1.heap.size W1 W4 → W4.ownsRow W1.heap.size 63 3 (.slice A4 (k + 1 + (L.length - k)) c4) (k + 1 + (L.length - k)) (rowC sltC (L.take k) ++ sltC ⟨sid, sver, sA, scap, svals⟩ ++ rowC sltC (L.drop k)) → Below w.heap.size w W4 ∧ W4.ownsRow w.heap.size 63 3 (.slice A4 (L.length + 1) c4) (L.length + 1) (rowC sltC (L.take k ++ ⟨sid, sver, sA, scap, svals⟩ :: L.drop k)) from fun W4 A4 c4 b o => by
      rw [hlen, xs4] at o
      exact ⟨hB1.out.trans (b.mono hB1.out.size), own_lower o hB1.out.size⟩)
    replace own2 := Lib.hid own2
    replace hdr := Lib.hid hdr
    clear hb2 grow2 loc2 hM1 hb1 ol nil hB2 hB1 xs4 c0
    rcases Nat.lt_or_ge k cap with hkk | hkk
    · have hcap : ((cap : Int) = (k : Int)) = False := eq_false (by omega)
      have hcap' : (cap = k) = False := eq_false (by omega)
      go_wp2_with fail
      go_region_law (first
        | (refine step_append_row (by rfl) (.tmp 22) (.tmp 24) 105 (by rfl) W1.heap.size 63 i0 _ 3 40 Try.underlying105 hi hz0 hz1 hz2 (by rfl) (by decide) (.slice A2 k c2) k (rowC sltC (L.take k)) (by rfl) (own_below own2.out (by repeat (first | (with_reducible exact Below.refl _ _) | (with_reducible refine Below.drew ?_) | (with_reducible refine Below.alloc ?_ (by simp [more_size]; try omega) _) | (with_reducible refine Below.setCell ?_ (by simp [more_size]; try omega) _) | (with_reducible refine below_more ?_ _ (by simp [more_size]; try omega))))) (some ⟨W2.heap.size, 0, none⟩) 1 1 (sltC ⟨sid, sver, sA, scap, svals⟩) (by rfl) (fun e => by cases e) (by rfl) (fun ad e => by cases e; exact cells_at _ (sltC ⟨sid, sver, sA, scap, svals⟩) _ (by simp)) (sltC_one _) (by unfold maxLen; omega) (by omega) (by simp; omega) ?_; intro A3 c3 W3 own3 grow3 loc3; have hB3 := KB.out _ W3 (by repeat (first | (with_reducible exact Below.refl _ _) | (with_reducible refine Below.drew ?_) | (with_reducible refine Below.alloc ?_ (by simp [more_size]; try omega) _) | (with_reducible refine Below.setCell ?_ (by simp [more_size]; try omega) _) | (with_reducible refine below_more ?_ _ (by simp [more_size]; try omega)))) grow3; obtain ⟨d3, e3, n3⟩ := FC.out W3 hB3; replace n3 := Lib.hid n3)
        | (refine step_append_row (by rfl) (.tmp 25) (.tmp 31) 105 (by rfl) W1.heap.size 63 i0 _ 3 40 Try.underlying105 hi hz0 hz1 hz2 (by rfl) (by decide) (.slice A3 (k + 1) c3) (k + 1) (rowC sltC (L.take k) ++ sltC ⟨sid, sver, sA, scap, svals⟩) (by rfl) own3 (some ⟨g, k * 3, none⟩) (L.length - k) (cap - k) (rowC sltC (L.drop k)) (by rfl) (fun e => by cases e) hdr.out (fun ad e j u hu => by cases e; rw [Go.WideShapes.add_plain]; exact n3.out j u hu) (rowC_one sltC_one _) (by unfold maxLen; omega) (by omega) hB3.size ?_; intro A4 c4 W4 own4 grow4 loc4; have hB4 := KC.out W3 W4 A3 c3 _ hB3 own3 grow4; obtain ⟨d4, e4, _⟩ := FC.out W4 hB4))
      all_goals
        obtain ⟨f1, f2⟩ := fin.out W4 A4 c4 hB4 own4
        replace f1 := Lib.hid f1
        replace f2 := Lib.hid f2
        try rw [hlen]
        clear fin own4 grow4 loc4 hB4 d4 e4 own3 grow3 loc3 hB3 d3 e3 n3 own2 FC KB KC r0 r1 r2 d0 e0 dA
        go_end0
        exact ⟨rfl, k, W4, A4, c4, hk.out, f1.out, rfl, f2.out⟩
    · obtain rfl : k = cap := by omega
      obtain rfl : L.length = k := by omega
      have hz : L.drop L.length = [] := List.drop_length
      have fin2 := Lib.hid (show ∀ W4 A4 c4, Below W1.heap.size W1 W4 → W4.ownsRow W1.heap.size 63 3 (.slice A4 (L.length + 1 + 0) c4) (L.length + 1 + 0) (rowC sltC (L.take L.length) ++ sltC ⟨sid, sver, sA, scap, svals⟩ ++ []) → Below w.heap.size w W4 ∧ W4.ownsRow w.heap.size 63 3 (.slice A4 (L.length + 1) c4) (L.length + 1) (rowC sltC (L.take L.length ++ ⟨sid, sver, sA, scap, svals⟩ :: L.drop L.length)) from fun W4 A4 c4 b o => fin.out W4 A4 c4 b (by rw [hz, Nat.sub_self]; exact o))
      clear hdr fin hz hkk
      go_wp2_with fail
      go_region_law (first
        | (refine step_append_row (by rfl) (.tmp 22) (.tmp 24) 105 (by rfl) W1.heap.size 63 i0 _ 3 40 Try.underlying105 hi hz0 hz1 hz2 (by rfl) (by decide) (.slice A2 L.length c2) L.length (rowC sltC (L.take L.length)) (by rfl) (own_below own2.out (by repeat (first | (with_reducible exact Below.refl _ _) | (with_reducible refine Below.drew ?_) | (with_reducible refine Below.alloc ?_ (by simp [more_size]; try omega) _) | (with_reducible refine Below.setCell ?_ (by simp [more_size]; try omega) _) | (with_reducible refine below_more ?_ _ (by simp [more_size]; try omega))))) (some ⟨W2.heap.size, 0, none⟩) 1 1 (sltC ⟨sid, sver, sA, scap, svals⟩) (by rfl) (fun e => by cases e) (by rfl) (fun ad e => by cases e; exact cells_at _ (sltC ⟨sid, sver, sA, scap, svals⟩) _ (by simp)) (sltC_one _) (by unfold maxLen; omega) (by omega) (by simp; omega) ?_; intro A3 c3 W3 own3 grow3 loc3; have hB3 := KB.out _ W3 (by repeat (first | (with_reducible exact Below.refl _ _) | (with_reducible refine Below.drew ?_) | (with_reducible refine Below.alloc ?_ (by simp [more_size]; try omega) _) | (with_reducible refine Below.setCell ?_ (by simp [more_size]; try omega) _) | (with_reducible refine below_more ?_ _ (by simp [more_size]; try omega)))) grow3; obtain ⟨d3, e3, n3⟩ := FC.out W3 hB3; replace n3 := Lib.hid n3)
        | (refine step_append_row (by rfl) (.tmp 25) (.tmp 31) 105 (by rfl) W1.heap.size 63 i0 _ 3 40 Try.underlying105 hi hz0 hz1 hz2 (by rfl) (by decide) (.slice A3 (L.length + 1) c3) (L.length + 1) (rowC sltC (L.take L.length) ++ sltC ⟨sid, sver, sA, scap, svals⟩) (by rfl) own3 (some ⟨g, 0, none⟩) 0 0 [] (by rfl) (fun e => by cases e) (by simp) (fun ad e j u hu => by simp at hu) (fun u hu => by simp at hu) (by unfold maxLen; omega) (by omega) hB3.size ?_; intro A4 c4 W4 own4 grow4 loc4; have hB4 := KC.out W3 W4 A3 c3 _ hB3 own3 grow4; obtain ⟨d4, e4, _⟩ := FC.out W4 hB4))
      all_goals
        obtain ⟨f1, f2⟩ := fin2.out W4 A4 c4 hB4 own4
        replace f1 := Lib.hid f1
        replace f2 := Lib.hid f2
        try rw [Nat.add_zero]
        clear fin2 own4 grow4 loc4 hB4 d4 e4 own3 grow3 loc3 hB3 d3 e3 n3 own2 FC KB KC r0 r1 r2 d0 e0 dA
        go_end0
        exact ⟨rfl, L.length, W4, A4, c4, hk.out, f1.out, rfl, f2.out⟩
  · have c9 : w.cell? ⟨pr, 0, none⟩ = some (.slice none 0 0) := hh.out.box.cell 0
    go_enter Try.func99, Try.ntmps99
    go_wp2_with fail
    refine (AT.out _ (by repeat (first | (with_reducible exact Below.refl _ _) | (with_reducible refine Below.drew ?_) | (with_reducible refine Below.alloc ?_ (by simp [more_size]; try omega) _) | (with_reducible refine Below.setCell ?_ (by simp [more_size]; try omega) _) | (with_reducible refine below_more ?_ _ (by simp [more_size]; try omega))))).mono ?_
    rintro e w1 ⟨k, rfl, hk, x, rfl⟩
    obtain rfl : k = 0 := by have := hk.1; simpa using this
    replace hk := Lib.hid hk
    have hB1 : Below w.heap.size w (more (w.alloc (.cells #[.int .i64 sid, .int .i64 sver, .slice sA svals.length scap] 63)) x) := (by repeat (first | (with_reducible exact Below.refl _ _) | (with_reducible refine Below.drew ?_) | (with_reducible refine Below.alloc ?_ (by simp [more_size]; try omega) _) | (with_reducible refine Below.setCell ?_ (by simp [more_size]; try omega) _) | (with_reducible refine below_more ?_ _ (by simp [more_size]; try omega))))
    have hM1 := Lib.hid (hh.out.below hB1)
    have hb1 := Lib.hid ((Blk.new w #[.int .i64 sid, .int .i64 sver, .slice sA svals.length scap] 63 rfl).more x)
    have hsz1 : w.heap.size < (more (w.alloc (.cells #[.int .i64 sid, .int .i64 sver, .slice sA svals.length scap] 63)) x).heap.size := by rw [more_size]; simp; omega
    generalize more (w.alloc (.cells #[.int .i64 sid, .int .i64 sver, .slice sA svals.length scap] 63)) x = W1 at *
    replace hB1 := Lib.hid hB1
    have c0 : W1.cell? ⟨pr, 0, none⟩ = some (.slice none 0 0) := hM1.out.box.cell 0
    have nil := Lib.hid (World.ownsRow_nil W1 W1.heap.size 63 3)
    clear hh AT c9
    go_wp2_with (first
      | (at_builtin; refine wpList_append_row rfl _ _ 105 rfl W1.heap.size 63 i0 _ 3 40 Try.underlying105 hi hz0 hz1 hz2 rfl (by decide) (.slice none 0 0) 0 [] rfl nil.out none 0 0 [] rfl (fun _ => ⟨rfl, rfl⟩) rfl (fun ad e => by cases e) (fun u hu => by simp at hu) (by decide) (by decide) (Nat.le_refl _) ?_; intro v2 W2 own2 grow2 loc2)
      | fail)
    rw [Nat.zero_add, List.nil_append] at own2
    obtain ⟨A2, c2, rfl⟩ := own_form9 own2
    have hB2 : Below W1.heap.size W1 W2 := ⟨grow2.os, grow2.tape, grow2.output, grow2.size, fun j hj => grow2.block j hj (by simp [Value.ownBlock])⟩
    have FC := Lib.hid (show ∀ V, Below W1.heap.size W1 V → V.cell? ⟨pr, 0, none⟩ = some (.slice none 0 0) ∧ V.frozen? ⟨pr, 0, none⟩ = false from fun V hV => by
      have q1 : V.heap[pr]? = W1.heap[pr]? := hV.block pr (by omega)
      exact ⟨(World.cell?_of_block (w := W1) (a := ⟨pr, 0, none⟩) q1).trans c0, (World.frozen?_of_block (w := W1) (a := ⟨pr, 0, none⟩) q1).trans (hM1.out.box.free 0)⟩)
    have KB := Lib.hid (show ∀ V W3, Below W2.heap.size W2 V → V.grownBy W3 (Value.slice A2 0 c2).ownBlock → Below W1.heap.size W1 W3 from fun V W3 h1 h2 => by
      have b1 := hB2.trans (h1.mono hB2.size)
      exact b1.trans ⟨h2.os, h2.tape, h2.output, h2.size, fun j hj => h2.block j (Nat.lt_of_lt_of_le hj b1.size) (fun e => by have := own_ge own2 j e.symm; omega)⟩)
    have KC := Lib.hid (show ∀ W3 W4 A3 c3 xs, Below W1.heap.size W1 W3 → W3.ownsRow W1.heap.size 63 3 (.slice A3 1 c3) 1 xs → W3.grownBy W4 (Value.slice A3 1 c3).ownBlock → Below W1.heap.size W1 W4 from fun W3 W4 A3 c3 xs b1 o h2 =>
      b1.trans ⟨h2.os, h2.tape, h2.output, h2.size, fun j hj => h2.block j (Nat.lt_of_lt_of_le hj b1.size) (fun e => by have := own_ge o j e.symm; omega)⟩)
    have hB2s := hB2.size
    have hp2 : pr < W2.heap.size := by omega
    have hb2s : w.heap.size < W2.heap.size := by omega
    have dA : (W2.alloc (.cells #[.int .i64 sid, .int .i64 sver, .slice sA svals.length scap] 63)).cell? ⟨pr, 0, none⟩ = some (.slice none 0 0) := (FC.out _ (hB2.alloc hB2s _)).1
    have hb2 := hb1.out.below hB2 hsz1
    have r0 : W2.cell? ⟨w.heap.size, 0, none⟩ = some (.int .i64 sid) := hb2.cell 0
    have r1 : W2.cell? ⟨w.heap.size, 1, none⟩ = some (.int .i64 sver) := hb2.cell 1
    have r2 : W2.cell? ⟨w.heap.size, 2, none⟩ = some (.slice sA svals.length scap) := hb2.cell 2
    obtain ⟨d0, e0⟩ := FC.out W2 hB2
    have fin := Lib.hid (show ∀ W4 A4 c4, Below W1.heap.size W1 W4 → W4.ownsRow W1.heap.size 63 3 (.slice A4 (1 + 0) c4) (1 + 0) (sltC ⟨sid, sver, sA, scap, svals⟩ ++ []) → Below w.heap.size w W4 ∧ W4.ownsRow w.heap.size 63 3 (.slice A4 1 c4) 1 (rowC sltC [⟨sid, sver, sA, scap, svals⟩]) from fun W4 A4 c4 b o => by
      rw [List.append_nil] at o
      exact ⟨hB1.out.trans (b.mono hB1.out.size), own_lower (by rw [rowC_single]; exact o) hB1.out.size⟩)
    replace own2 := Lib.hid own2
    clear hb2 grow2 loc2 hM1 hb1 nil hB2 hB1 c0
    go_wp2_with fail
    go_region_law (first
      | (refine step_append_row (by rfl) (.tmp 22) (.tmp 24) 105 (by rfl) W1.heap.size 63 i0 _ 3 40 Try.underlying105 hi hz0 hz1 hz2 (by rfl) (by decide) (.slice A2 0 c2) 0 [] (by rfl) (own_below own2.out (by repeat (first | (with_reducible exact Below.refl _ _) | (with_reducible refine Below.drew ?_) | (with_reducible refine Below.alloc ?_ (by simp [more_size]; try omega) _) | (with_reducible refine Below.setCell ?_ (by simp [more_size]; try omega) _) | (with_reducible refine below_more ?_ _ (by simp [more_size]; try omega))))) (some ⟨W2.heap.size, 0, none⟩) 1 1 (sltC ⟨sid, sver, sA, scap, svals⟩) (by rfl) (fun e => by cases e) (by rfl) (fun ad e => by cases e; exact cells_at _ (sltC ⟨sid, sver, sA, scap, svals⟩) _ (by simp)) (sltC_one _) (by decide) (by decide) (by simp; omega) ?_; intro A3 c3 W3 own3 grow3 loc3; rw [Nat.zero_add, List.nil_append] at own3; have hB3 := KB.out _ W3 (by repeat (first | (with_reducible exact Below.refl _ _) | (with_reducible refine Below.drew ?_) | (with_reducible refine Below.alloc ?_ (by simp [more_size]; try omega) _) | (with_reducible refine Below.setCell ?_ (by simp [more_size]; try omega) _) | (with_reducible refine below_more ?_ _ (by simp [more_size]; try omega)))) grow3; obtain ⟨d3, e3⟩ := FC.out W3 hB3)
      | (refine step_append_row (by rfl) (.tmp 25) (.tmp 31) 105 (by rfl) W1.heap.size 63 i0 _ 3 40 Try.underlying105 hi hz0 hz1 hz2 (by rfl) (by decide) (.slice A3 1 c3) 1 (sltC ⟨sid, sver, sA, scap, svals⟩) (by rfl) own3 none 0 0 [] (by rfl) (fun _ => ⟨rfl, rfl⟩) (by rfl) (fun ad e => by cases e) (fun u hu => by simp at hu) (by decide) (by decide) hB3.size ?_; intro A4 c4 W4 own4 grow4 loc4; have hB4 := KC.out W3 W4 A3 c3 _ hB3 own3 grow4; obtain ⟨d4, e4⟩ := FC.out W4 hB4))
    all_goals
      obtain ⟨f1, f2⟩ := fin.out W4 A4 c4 hB4 own4
      replace f1 := Lib.hid f1
      replace f2 := Lib.hid f2
      clear fin own4 grow4 loc4 hB4 d4 e4 own3 grow3 loc3 hB3 d3 e3 own2 FC KB KC r0 r1 r2 d0 e0 dA
      go_end0
      exact ⟨rfl, 0, W4, A4, c4, hk.out, f1.out, rfl, f2.out⟩
end Go.Proofs.Ytilpgojkbgbinaa
