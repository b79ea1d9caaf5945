/- BitsLeast: the least of a row of floats, by the order. -/
import Derived.Test.YtdnhldmdjbalgaaLaws1
import Derived.LoopTactic
import Derived.ProofKit
import Derived.OpenShut
set_option linter.unusedVariables false
set_option linter.unusedSimpArgs false
namespace Go.Proofs.Ytdnhldmdjbalgaa
open Go.RowKit
attribute [local go_sem] run_frombits run_tobits

/-- the one ahead: of two, the second where it is less -/
def lessN (m f : Nat) : Nat := if ordN f < ordN m then f else m
def leastN (xs : List Nat) : Nat := (xs.drop 1).foldl lessN (xs.getD 0 0)

set_option maxHeartbeats 2000000 in
theorem least_some (g n cap : Nat) (xs : List Nat) (w : World) (hn : n = xs.length) (h0 : 0 < n) (hc : n ≤ cap) (hm : cap ≤ 9223372036854775807)
    (hcell : ∀ j, j < n → w.cell? ⟨g, j, none⟩ = some (.float .f64 (xs.getD j 0))) (hx : ∀ x ∈ xs, x < 18446744073709551616) :
    Calls Try.prog 34 #[.slice (some ⟨g, 0, none⟩) n cap] w fun e w' => e = .returned (.tuple #[.float .f64 (leastN xs), .bool true]) ∧ w = w' := by
  have c0 := hcell 0 h0
  have hn0 : ((n : Int) == 0) = false := by rw [beq_eq_false_iff_ne]; omega
  have hb : ∀ j, xs.getD j 0 < 18446744073709551616 := by
    intro j
    rcases Nat.lt_or_ge j xs.length with h | h
    · rw [List.getD_eq_getElem?_getD, List.getElem?_eq_getElem h]; exact hx _ (List.getElem_mem h)
    · rw [List.getD_eq_getElem?_getD, List.getElem?_eq_none h]; decide
  have HN := Lib.hid hn; clear hn
  have HC := Lib.hid hcell; clear hcell
  have HB := Lib.hid hb; clear hb
  by_cases h1 : cap = 1
  · subst h1
    obtain rfl : n = 1 := by omega
    have hlen : xs.length = 1 := HN.out.symm
    have HL := Lib.hid (show leastN xs = xs[0]?.getD 0 by
      match xs, hlen with
      | [x], _ => rfl)
    clear hlen
    go_enter Try.func34, Try.ntmps34
    go_wp2
    go_loop [4, 16] (fun l i => i = .int .i64 0 ∧ l = .float .f64 (xs[0]?.getD 0)) (fun _ i => 0)
    case atStart => exact ⟨rfl, rfl⟩
    case round =>
      obtain ⟨rfl, rfl⟩ := hrel
      go_wp2
      go_ret2
      exact ⟨ret2 HL.out.symm rfl, rfl⟩
  · go_enter Try.func34, Try.ntmps34
    go_wp2
    go_loop [4, 16] (fun l i => ∃ k m : Nat, k + 1 ≤ n ∧ i = .int .i64 k ∧ l = .float .f64 m ∧ m < 18446744073709551616 ∧ Hid (((xs.drop (1 + k)).foldl lessN m) = leastN xs)) (fun _ i => n - (intOf i).toNat)
    case atStart => exact ⟨0, xs[0]?.getD 0, by omega, rfl, rfl, HB.out 0, Lib.hid rfl⟩
    case round =>
      obtain ⟨k, m, hk, rfl, rfl, hm', hf⟩ := hrel
      by_cases hlt : k + 1 < n
      · have hlt1 : (k : Int) < ((n - 1 : Nat) : Int) := by omega
        have hlt2 : k < n - 1 := by omega
        have ck : w.cell? ⟨g, 1 + k, none⟩ = some (.float .f64 (xs.getD (1 + k) 0)) := HC.out (1 + k) (by omega)
        have bk : xs.getD (1 + k) 0 < 18446744073709551616 := HB.out (1 + k)
        have HS := Lib.hid (show (xs.drop (1 + (k + 1))).foldl lessN (lessN m (xs.getD (1 + k) 0)) = leastN xs by
          have hl : 1 + k < xs.length := by have := HN.out; omega
          rw [← hf.out, List.drop_eq_getElem_cons hl, List.foldl_cons]
          rw [List.getD_eq_getElem?_getD, List.getElem?_eq_getElem hl]; rfl)
        generalize xs.getD (1 + k) 0 = y at ck bk HS
        go_wp2_with (first | (go_at_call 25; refine (compare_any _ _ bk hm' _).mono ?_; rintro e w' ⟨rfl, rfl⟩))
        · have hcmp : cmpN (ordN y) (ordN m) < 0 := by assumption
          have ho : ordN y < ordN m := by
            rcases Nat.lt_or_ge (ordN y) (ordN m) with h | h
            · exact h
            · have := cmpN_ge h; omega
          go_round
          case rel => exact ⟨k + 1, y, by omega, by go_num, rfl, bk, by have := HS.out; unfold lessN at this; rw [if_pos ho] at this; exact Lib.hid this⟩
          case measure => simp [intOf]; omega
        · have hcmp : 0 ≤ cmpN (ordN y) (ordN m) := by assumption
          have ho : ¬ ordN y < ordN m := by
            intro h
            have := cmpN_lt h; omega
          go_round
          case rel => exact ⟨k + 1, m, by omega, by go_num, rfl, hm', by have := HS.out; unfold lessN at this; rw [if_neg ho] at this; exact Lib.hid this⟩
          case measure => simp [intOf]; omega
      · have hlt1 : ¬ (k : Int) < ((n - 1 : Nat) : Int) := by omega
        go_wp2
        go_ret2
        exact ⟨ret2 (by rw [← hf.out, List.drop_eq_nil_of_le (by have := HN.out; omega)]; rfl) rfl, rfl⟩
set_option maxHeartbeats 400000 in
theorem least_none (w : World) : Calls Try.prog 34 #[.slice none 0 0] w fun e w' => e = .returned (.tuple #[.float .f64 0, .bool false]) ∧ w = w' := by
  go_enter Try.func34, Try.ntmps34
  go_wp2
  go_ret2
  exact ⟨rfl, rfl⟩
theorem foldl_less (l : List Nat) : ∀ m, (l.foldl lessN m = m ∨ l.foldl lessN m ∈ l) ∧ ordN (l.foldl lessN m) ≤ ordN m ∧ ∀ x ∈ l, ordN (l.foldl lessN m) ≤ ordN x := by
  induction l with
  | nil => intro m; exact ⟨.inl rfl, Nat.le_refl _, fun x h => by cases h⟩
  | cons y l ih =>
    intro m
    obtain ⟨h1, h2, h3⟩ := ih (lessN m y)
    have h4 : lessN m y = m ∨ lessN m y = y := by unfold lessN; split; exact .inr rfl; exact .inl rfl
    have h5 : ordN (lessN m y) ≤ ordN m ∧ ordN (lessN m y) ≤ ordN y := by unfold lessN; split <;> omega
    refine ⟨?_, Nat.le_trans h2 h5.1, ?_⟩
    · rw [List.foldl_cons]
      rcases h1 with h | h
      · rcases h4 with q | q
        · left; rw [h, q]
        · right; rw [h, q]; exact List.mem_cons_self
      · right; exact List.mem_cons_of_mem _ h
    · intro x hx
      rw [List.foldl_cons]
      rcases List.mem_cons.1 hx with rfl | h
      · exact Nat.le_trans h2 h5.2
      · exact h3 x h
theorem least_spec (xs : List Nat) (h : xs ≠ []) : leastN xs ∈ xs ∧ ∀ x ∈ xs, ordN (leastN xs) ≤ ordN x := by
  match xs, h with
  | y :: l, _ =>
    have e : leastN (y :: l) = l.foldl lessN y := rfl
    obtain ⟨h1, h2, h3⟩ := foldl_less l y
    rw [e]
    refine ⟨?_, ?_⟩
    · rcases h1 with q | q
      · rw [q]; exact List.mem_cons_self
      · exact List.mem_cons_of_mem _ q
    · intro x hx
      rcases List.mem_cons.1 hx with rfl | q
      · exact h2
      · exact h3 x q

theorem info_f64 : (Try.prog.info? 24).map (fun i => (i.zero, i.size, i.bytes)) = some (some (.float .f64 0), 1, 8) := by kernel_rfl

set_option maxHeartbeats 2000000 in
theorem walk_least_some (b off n cap : Nat) (zs : List Nat) (w : World) (hb : b < w.heap.size) (hn : n ≤ 200) (h0 : 0 < n) (hc : n ≤ cap) (hm : cap ≤ 9223372036854775807)
    (hcell : ∀ j, j < n → w.cell? ⟨b, off + j, none⟩ = some (.int .u64 ((zs.getD j 0 : Nat) : Int))) (hz : ∀ j, zs.getD j 0 < 18446744073709551616) (hl : zs.length = n) :
    Calls Try.prog 10 #[.slice (some ⟨b, off, none⟩) n cap] w fun e w' => e = .returned (.bool true) ∧ Below w.heap.size w w' := by
  obtain ⟨i0, hi, hz0, hz1, hz2⟩ := info_parts info_f64
  have HC := Lib.hid hcell; clear hcell
  have HZ := Lib.hid hz; clear hz
  have HL := Lib.hid hl; clear hl
  go_enter Try.func10, Try.ntmps10
  go_wp2_with (first | (go_at_call 16; refine (known1 _).mono ?_; rintro e w' ⟨rfl, rfl⟩))
  go_loopw [3, 4] (fun v i wr => ∃ (k : Nat) (xs : List Value), k ≤ n ∧ i = .int .i64 k ∧ wr.ownsRow w.heap.size 24 1 v k xs ∧ Hid (xs = (zs.take k).map (Value.float .f64)) ∧ Below w.heap.size w wr) (fun _ i _ => n - (intOf i).toNat)
  case atStart => exact ⟨0, [], Nat.zero_le _, rfl, World.ownsRow_nil _ _ _ _, Lib.hid rfl, Below.refl _ _⟩
  case round =>
    obtain ⟨k, xs, hk, rfl, hown, hxs, hbel⟩ := hrel
    by_cases hlt : k < n
    · have hcx : wr.cell? ⟨b, off + k, none⟩ = some (.int .u64 ((zs.getD k 0 : Nat) : Int)) := (hbel.cell (by exact hb)).trans (HC.out k hlt)
      have hT := Lib.hid (show xs ++ [.float .f64 (zs.getD k 0)] = (zs.take (k + 1)).map (Value.float .f64) by
        have := HL.out
        rw [hxs.out, List.take_succ_eq_append_getElem (by omega), List.map_append, List.getD_eq_getElem?_getD, List.getElem?_eq_getElem (by omega)]; rfl)
      generalize zs.getD k 0 = z at hcx hT
      go_wp2_with (at_builtin; refine wpList_append_own _ rfl _ _ 44 rfl w.heap.size 24 i0 (.float .f64 0) 1 8 Try.underlying44 hi hz0 hz1 hz2 rfl (by decide) _ _ _ rfl (hown.alloc _) ⟨wr.heap.size, 0, none⟩ 1 1 [.float .f64 z] rfl rfl ?c1 ?c2 ?c3 ?c4 ?c5 ?_)
      case c1 =>
        intro j u hj
        match j, hj with
        | 0, hj => simp at hj; subst hj; simp [Addr.add]
      case c2 => intro u hu; simp at hu; subst hu; rfl
      case c3 => unfold maxLen; omega
      case c4 => omega
      case c5 => have := hbel.size; simp; omega
      intro v' w1 hown' hgrow _
      have hbel' : Below w.heap.size w w1 := (hbel.alloc hbel.size _).grown hgrow (by have := hbel.size; simp; omega) (fun j hj => (hown.lt j hj).1)
      clear hgrow
      go_wp2
      go_roundw
      case rel => exact ⟨k + 1, _, by omega, by go_num, hown', hT, hbel'⟩
      case measure => simp [intOf]; omega
    · obtain rfl : k = n := by omega
      rcases hown with ⟨hlen, ⟨_, hv0⟩ | ⟨g, cp, cur, rfl, hge, hblk, hnc, hcm, hcs, htake⟩⟩
      · omega
      have hx1 : ∀ j, j < k → wr.cell? ⟨g, j, none⟩ = some (.float .f64 (zs.getD j 0)) := by
        intro j hj
        have e1 : wr.cell? ⟨g, j, none⟩ = cur[j]? := cell_of_row wr g j cur _ (0, 0) hblk
        have hl := HL.out
        rw [e1, ← Array.getElem?_toList]
        have e2 : (cur.toList.take (k * 1))[j]? = cur.toList[j]? := List.getElem?_take_of_lt (by omega)
        rw [← e2, htake, hxs.out, List.take_of_length_le (by omega), List.getElem?_map, List.getD_eq_getElem?_getD, List.getElem?_eq_getElem (by omega)]
        rfl
      obtain ⟨s1, s2⟩ := least_spec zs (by intro h; have := HL.out; rw [h] at this; simp at this; omega)
      have hz' : ∀ x ∈ zs, x < 18446744073709551616 := by
        intro x hx
        obtain ⟨j, hj, rfl⟩ := List.mem_iff_getElem.1 hx
        have := HZ.out j
        rwa [List.getD_eq_getElem?_getD, List.getElem?_eq_getElem hj] at this
      have hm' := hz' _ s1
      have S1 := Lib.hid s1; clear s1
      have S2 := Lib.hid s2; clear s2
      have X1 := Lib.hid hx1; clear hx1
      have XZ := Lib.hid hz'; clear hz'
      have hk0 : ((k : Int) == 0) = false := by rw [beq_eq_false_iff_ne]; omega
      have hcm' : cp ≤ 9223372036854775807 := hcm
      clear hblk hcs htake hlen hcm
      go_wp2_with (first | (go_at_call 34; refine (least_some g k cp zs wr HL.out.symm h0 hnc hcm' X1.out XZ.out).mono ?_; rintro e w' ⟨rfl, rfl⟩))
      generalize hM : leastN zs = m at *
      clear hM
      go_loopw [7, 8] (fun t i wx => ∃ (j : Nat) (p : Bool), j ≤ k ∧ i = .int .i64 j ∧ t = .bool p ∧ Hid (p = true ↔ ∃ i, i < j ∧ zs.getD i 0 = m) ∧ wr = wx) (fun _ i _ => k - (intOf i).toNat)
      case atStart => exact ⟨0, false, by omega, rfl, rfl, Lib.hid (by simp), rfl⟩
      case round =>
        obtain ⟨j, p, hj, rfl, rfl, hp, rfl⟩ := hrel
        by_cases hjk : j < k
        · have cx := X1.out j hjk
          have cz := HZ.out j
          have co : ordN m ≤ ordN (zs.getD j 0) := S2.out _ (by have := HL.out; rw [List.getD_eq_getElem?_getD, List.getElem?_eq_getElem (by omega)]; exact List.getElem_mem _)
          have hcmp := cmpN_ge co
          clear co
          have HP : Hid ((p || decide (zs.getD j 0 = m)) = true ↔ ∃ i, i < j + 1 ∧ zs.getD i 0 = m) := Lib.hid (by
            rw [Bool.or_eq_true, decide_eq_true_iff, hp.out]
            constructor
            · rintro (⟨i, h1, h2⟩ | h)
              · exact ⟨i, by omega, h2⟩
              · exact ⟨j, by omega, h⟩
            · rintro ⟨i, h1, h2⟩
              rcases Nat.lt_or_ge i j with h | h
              · exact .inl ⟨i, h, h2⟩
              · obtain rfl : i = j := by omega
                exact .inr h2)
          clear hp
          generalize zs.getD j 0 = y at cx cz hcmp HP
          cases p
          all_goals
            go_wp2_with (first
              | (go_at_call 25; refine (compare_any _ _ cz hm' _).mono ?_; rintro e w' ⟨rfl, rfl⟩)
              | (go_at_call 22; refine (same_any _ _ cz hm' _).mono ?_; rintro e w' ⟨rfl, rfl⟩))
            go_roundw
            case rel => exact ⟨j + 1, _, by omega, by go_num, rfl, HP, by first | rfl | trivial⟩
            case measure => simp [intOf]; omega
        · obtain rfl : j = k := by omega
          have hpt : p = true := hp.out.2 (by
            obtain ⟨i, hi, he⟩ := List.mem_iff_getElem.1 S1.out
            exact ⟨i, by have := HL.out; omega, by rw [List.getD_eq_getElem?_getD, List.getElem?_eq_getElem hi, he]; rfl⟩)
          subst hpt
          go_wp2
          go_ret
          exact ⟨rfl, hbel⟩
set_option maxHeartbeats 800000 in
theorem walk_least_many (A : Option Addr) (n cap : Nat) (w : World) (hn : 200 < n) :
    Calls Try.prog 10 #[.slice A n cap] w fun e w' => e = .returned (.bool true) ∧ w = w' := by
  go_enter Try.func10, Try.ntmps10
  go_wp2_with (first | (go_at_call 16; refine (known1 _).mono ?_; rintro e w' ⟨rfl, rfl⟩))
  go_ret
  exact ⟨rfl, rfl⟩
set_option maxHeartbeats 800000 in
theorem walk_least_zero (A : Option Addr) (cap : Nat) (w : World) :
    Calls Try.prog 10 #[.slice A 0 cap] w fun e w' => e = .returned (.bool true) ∧ w = w' := by
  go_enter Try.func10, Try.ntmps10
  go_wp2_with (first | (go_at_call 16; refine (known1 _).mono ?_; rintro e w' ⟨rfl, rfl⟩))
  refine wp_loop_rounds 1 ?_
  rw [rounds_succ]
  go_wp2_with (first
    | (go_at_call 34; refine (least_none _).mono ?_; rintro e w' ⟨rfl, rfl⟩)
    | (go_at_call 22; refine (same_any _ _ (by decide) (by decide) _).mono ?_; rintro e w' ⟨rfl, rfl⟩))
  go_ret
  exact ⟨rfl, rfl⟩
end Go.Proofs.Ytdnhldmdjbalgaa
