/- Package hashidx: Insert. -/
import Derived.Test.YtijegkiapbmekaaHfind
import Derived.Laws.AppendOwnNone
set_option maxRecDepth 100000
set_option linter.unusedVariables false
set_option linter.unusedSimpArgs false
namespace Go.Proofs.Ytijegkiapbmekaa
open Go.RowKit
open Go.Maps (has size Keyed int_keyed keyOf_int_mk)
attribute [local go_sem] run_frombits run_tobits more_more more_drew more_drewN more_size more_cell more_frozen run_store_float lt_c1 le_c1 lt_s1 le_s1 lt_c2 le_c2 lt_s2 le_s2 lt_c3 le_c3 lt_s3 le_s3 lt_c4 le_c4 lt_s4 le_s4 lt_c5 le_c5 lt_s5 le_s5 lt_c6 le_c6 lt_s6 le_s6 lt_c7 le_c7 lt_s7 le_s7 lt_c8 le_c8 lt_s8 le_s8 lt_c9 le_c9 lt_s9 le_s9 lt_c10 le_c10 lt_s10 le_s10 lt_c11 le_c11 lt_s11 le_s11 lt_c12 le_c12 lt_s12 le_s12 le_c0
/-- append of a whole row, nil or not, as one step of a region that draws -/
theorem step_append_row {P : Program} {w : World} {ops : Array Oper} {o : Oper} {a : Act} {K : Act → World → Prop} {Q : Exit → Act → World → Prop} {E : Prop} (hgd : o.guard = none) (s x : Operand) (t : TypeId)
    (ho : o.op = .call { callee := .builtin .append, args := #[s, x], argTypes := #[t, t] })
    (base : Nat) (e : TypeId) (i : TypeInfo) (z : Value) (size bytes : Nat) (ht : P.underlying t = some (.slice e)) (hi : P.info? e = some i) (hz : i.zero = some z)
    (hsize : i.size = size) (hby : i.bytes = bytes) (hzs : z.cells.size = size) (hsz : 0 < size)
    (v : Value) (n : Nat) (xs : List Value) (hs : a.eval s = v) (hown : w.ownsRow base e size v n xs)
    (A : Option Addr) (m c : Nat) (news : List Value) (hx : a.eval x = .slice A m c) (hA : A = none → c = 0 ∧ m = 0) (hl : news.length = m * size) (hnews : ∀ ad, A = some ad → ∀ j u, news[j]? = some u → w.cell? (ad.add j) = some u) (h1 : ∀ u ∈ news, u.oneCell' = true)
    (h63 : n + m ≤ maxLen) (hbytes : (n + m) * bytes ≤ 140737488355328) (hbase : base ≤ w.heap.size)
    (h : ∀ A' cap' w', w'.ownsRow base e size (.slice A' (n + m) cap') (n + m) (xs ++ news) → w.grownBy w' v.ownBlock → ((Value.slice A' (n + m) cap').ownBlock = v.ownBlock ∨ (Value.slice A' (n + m) cap').ownBlock = some w.heap.size) → K (a.put o.dst (.slice A' (n + m) cap')) w') :
    if Region.wanted o (yielded ops a.tmps) = true then Oper.wp P o a w K Q else E := by
  have hw : Region.wanted o (yielded ops a.tmps) = true := by simp [Region.wanted, hgd]
  rw [if_pos hw]
  cases A with
  | none =>
    obtain ⟨rfl, rfl⟩ := hA rfl
    have : news = [] := List.eq_nil_of_length_eq_zero (by rw [hl]; omega)
    subst this
    have hrun := run_append_owned_none (P := P) (w := w) base t o.type e i size ht hi v n xs hown
    obtain ⟨A', cap', rfl⟩ := own_form9 hown
    unfold Oper.wp
    simp [execOp, ho, resolve, invoke, builtin, hs, hx, hrun, Result.andThen]
    exact h A' cap' w (by rw [Nat.add_zero, List.append_nil]; exact hown) ⟨rfl, rfl, rfl, Nat.le_refl _, fun _ _ _ => rfl⟩ (.inl rfl)
  | some ad =>
    obtain ⟨v', w', hr, h2, h3, h4, h5⟩ := run_append_own_at (P := P) w base t o.type e i z size bytes ht hi hz hsize hby hzs hsz v n xs hown ad m c news hl (hnews ad rfl) h1 h63 hbytes hbase
    obtain ⟨A', cap', rfl⟩ := own_form9 h2
    unfold Oper.wp execOp
    simp only [ho, resolve, invoke, builtin, Sem.run_bind, Sem.run_pure, Result.andThen_ok, List.map_toArray, List.map_cons, List.map_nil, hs, hx, hr]
    exact h A' cap' w' h2 h3 h5
/-- 'm[k] = v' as one step of a region that draws -/
theorem step_mapUpdate {H : Type} {P : Program} {w : World} {ops : Array Oper} {o : Oper} {a : Act} {K0 : Act → World → Prop} {Q : Exit → Act → World → Prop} {E : Prop} (hgd : o.guard = none) (m x v : Operand) (t : TypeId) (hop : o.op = Op.mapUpdate t m x v)
    (k e : TypeId) (K : Keyed P k) (ht : P.underlying t = some (.map k e)) (R : Value → Option (DataW H × List MemPlace)) (b n : Nat) (D : DataW H)
    (hm : a.eval m = .map (some b)) (hown : w.ownsMap P k R b n D) (hn : n < maxLen) (key val : Value) (kl : Lit) (hx : a.eval x = key) (hv : a.eval v = val) (hkey : keyOf P k key = some kl)
    (d : DataW H) (ps : List MemPlace) (hval : R val = some (d, ps))
    (hK : ∀ w', w'.ownsMap P k R b (n + 1) (D.put kl d) → w.grownBy w' (some b) → K0 (a.put o.dst undef) w') :
    if Region.wanted o (yielded ops a.tmps) = true then Oper.wp P o a w K0 Q else E := by
  have hw : Region.wanted o (yielded ops a.tmps) = true := by simp [Region.wanted, hgd]
  rw [if_pos hw]
  obtain ⟨w', hrun, r1, r2⟩ := hown.update K ht hn hkey hval
  unfold Oper.wp
  simp [execOp, hop, hm, hx, hv, hrun, Result.andThen]
  exact hK w' r1 r2
theorem step_lookup_held {P : Program} {w : World} {ops : Array Oper} {o : Oper} {a : Act} {K0 : Act → World → Prop} {Q : Exit → Act → World → Prop} {E : Prop} (hgd : o.guard = none) (m x : Operand) (t : TypeId) (hop : o.op = Op.lookup t m x false)
    (M key v : Value) (hm : a.eval m = M) (hx : a.eval x = key) (hrun : (Instr.lookup t M key false).run P w = .ok v w) (hK : K0 (a.put o.dst v) w) :
    if Region.wanted o (yielded ops a.tmps) = true then Oper.wp P o a w K0 Q else E := by
  have hw : Region.wanted o (yielded ops a.tmps) = true := by simp [Region.wanted, hgd]
  rw [if_pos hw]
  unfold Oper.wp
  simp [execOp, hop, hm, hx, hrun, Result.andThen]
  exact hK
theorem size_readV {w : World} {D : DataW Value} {P : Program} {k : TypeId} {R : Value → Option (DataW Value × List MemPlace)} {b n : Nat} (h : w.ownsMap P k R b n D) : w.ownsMap P k R b (size D) D := by
  obtain ⟨es, c, hb, F, hn, rfl⟩ := h
  refine ⟨es, c, hb, F, ?_, rfl⟩
  have : size (DataW.map ((es.toList.map (WideElems.rg P k R)).foldr DataW.insert [])) = es.size := length_read es
  rw [this]; exact Nat.le_refl _
theorem info_i64 : (Try.prog.info? 2).map (fun i => (i.zero, i.size, i.bytes)) = some (some (.int .i64 0), 1, 8) := by kernel_rfl
theorem info_chp : (Try.prog.info? 62).map (fun i => (i.zero, i.size, i.bytes)) = some (some (.pointer none), 1, 8) := by kernel_rfl
set_option maxHeartbeats 1000000 in
theorem index_any (A : Option Addr) (ca : Nat) (l : List Int) (x : Int) (w : World) (la : l.length ≤ 1000000) (ha : RowIn intC 1 w A l) :
    Calls Try.prog 40 #[.slice A l.length ca, .int .i64 x] w fun e w' => ∃ k : Int, e = .returned (.int .i64 k) ∧ Hid (0 ≤ k ↔ x ∈ l) ∧ w = w' := by
  have HA := Lib.hid (show ∀ j (hj : j < l.length), ∃ b o, A = some ⟨b, o, none⟩ ∧ w.cell? ⟨b, o + j, none⟩ = some (.int .i64 l[j]) from fun j hj => by
    obtain ⟨b, o, e, _, hc⟩ := ha j hj
    exact ⟨b, o, e, by have := hc j hj 0 _ rfl; simpa using this⟩)
  clear ha
  go_enter Try.func40, Try.ntmps40
  go_wp2
  go_loop [8] (fun t => ∃ j : Nat, t = .int .i64 j ∧ j ≤ l.length ∧ Hid (∀ i (h : i < l.length), i < j → l[i] ≠ x)) (fun t => l.length - (intOf t).toNat)
  case atStart => exact ⟨0, rfl, by omega, Lib.hid (fun i h1 h2 => by omega)⟩
  case round =>
    obtain ⟨j, rfl, hj, hlow⟩ := hrel
    by_cases hlt : j < l.length
    · have hlt' : (j : Int) < (l.length : Int) := by omega
      obtain ⟨b, o, rfl, a0⟩ := HA.out j hlt
      have hyes := Lib.hid (show x = l[j] → x ∈ l from fun e => e ▸ List.getElem_mem hlt)
      have hno := Lib.hid (show x ≠ l[j] → ∀ i (h : i < l.length), i < j + 1 → l[i] ≠ x from fun e i h1 h2 => by
        rcases Nat.lt_or_ge i j with q | q
        · exact hlow.out i h1 q
        · have : i = j := by omega
          subst this; exact fun c => e c.symm)
      clear hlow
      generalize l[j] = y at *
      by_cases hy : x = y
      · have f1 := Lib.hid (hyes.out hy)
        have hy' : (x == y) = true := by simpa using hy
        clear hyes hno hy
        go_wp2
        go_ret
        exact ⟨(j : Nat), rfl, Lib.hid (iff_of_true (by omega) f1.out), rfl⟩
      · have f1 := Lib.hid (hno.out hy)
        have hy' : (x == y) = false := by simpa using hy
        clear hyes hno hy
        go_wp2
        exact ⟨⟨j + 1, by go_num, by omega, f1⟩, by simp [intOf]; omega⟩
    · have hlt' : ((j : Int) < (l.length : Int)) = False := eq_false (by omega)
      have f1 : Hid (x ∉ l) := Lib.hid (fun hc => by
        obtain ⟨i, hi, e⟩ := List.mem_iff_getElem.1 hc
        exact hlow.out i hi (by omega) e)
      clear hlow
      go_wp2
      go_ret
      exact ⟨-1, rfl, Lib.hid (iff_of_false (by decide) f1.out), rfl⟩
theorem contains_any (A : Option Addr) (ca : Nat) (l : List Int) (x : Int) (w : World) (la : l.length ≤ 1000000) (ha : RowIn intC 1 w A l) :
    Calls Try.prog 25 #[.slice A l.length ca, .int .i64 x] w fun e w' => e = .returned (.bool (decide (x ∈ l))) ∧ w = w' := by
  have IX := Lib.hid (index_any A ca l x w la ha)
  clear ha
  obtain ⟨r, hr⟩ : ∃ r, decide (x ∈ l) = r := ⟨_, rfl⟩
  rw [hr]
  replace hr := Lib.hid hr
  go_enter Try.func25, Try.ntmps25
  go_wp2_with fail
  refine IX.out.mono ?_
  rintro e w' ⟨k, rfl, hk, rfl⟩
  have hk2 := hk.out
  by_cases h0 : 0 ≤ k
  · have hr2 := hr.out
    rw [decide_eq_true (hk2.1 h0)] at hr2
    subst hr2
    clear hk hk2 hr
    go_wp2
    go_ret
    exact ⟨rfl, rfl⟩
  · have hr2 := hr.out
    rw [decide_eq_false (fun c => h0 (hk2.2 c))] at hr2
    subst hr2
    have h1 : (0 ≤ k) = False := eq_false h0
    clear hk h0 hk2 hr
    go_wp2
    go_ret
    exact ⟨rfl, rfl⟩
theorem bs_nil (x : Int) (w : World) : Calls Try.prog 28 #[.slice none 0 0, .int .i64 x] w fun e w' => e = .returned (.tuple #[.int .i64 0, .bool false]) ∧ w = w' := by
  go_enter Try.func28, Try.ntmps28
  go_wp2
  go_loop [7, 8] (fun t u => t = .int .i64 0 ∧ u = .int .i64 0) (fun _ _ => 0)
  case atStart => exact ⟨rfl, rfl⟩
  case round =>
    obtain ⟨rfl, rfl⟩ := hrel
    go_wp2
    go_ret2
    exact ⟨rfl, rfl⟩
set_option maxHeartbeats 1000000 in
theorem sins_nil (x : Int) (g : Nat) (w : World) (hg : w.cell? ⟨g, 0, none⟩ = some (.int .i64 x)) : Calls Try.prog 29 #[.slice none 0 0, .int .i64 0, .slice (some ⟨g, 0, none⟩) 1 1] w fun e w' => ∃ v, e = .returned v ∧ w'.ownsRow w.heap.size 2 1 v 1 [idI x] ∧ Below w.heap.size w w' := by
  obtain ⟨i0, hi, hz0, hz1, hz2⟩ := info_parts info_i64
  have nil := Lib.hid (World.ownsRow_nil w w.heap.size 2 1)
  have news := Lib.hid (show ∀ ad, some (⟨g, 0, none⟩ : Addr) = some ad → ∀ j u, [idI x][j]? = some u → w.cell? (ad.add j) = some u from fun ad e j u hu => by
    cases e
    cases j with
    | zero => simp at hu; subst hu; rw [Go.WideShapes.add_plain]; exact hg
    | succ j => simp at hu)
  clear hg
  go_enter Try.func29, Try.ntmps29
  go_wp2_with (first
    | (at_builtin; refine wpList_append_row rfl _ _ 34 rfl w.heap.size 2 i0 _ 1 8 Try.underlying34 hi hz0 hz1 hz2 rfl (by decide) (.slice none 0 0) 0 [] rfl nil.out (some ⟨g, 0, none⟩) 1 1 [idI x] rfl (fun e => by cases e) rfl news.out (fun u hu => by simp at hu; subst hu; rfl) (by unfold maxLen; omega) (by omega) (Nat.le_refl _) ?_; intro v2 W2 own2 grow2 loc2)
    | fail)
  rw [Nat.zero_add, List.nil_append] at own2
  go_ret
  exact ⟨_, rfl, own2, grow2.os, grow2.tape, grow2.output, grow2.size, fun j hj => grow2.block j hj (by simp [Value.ownBlock])⟩
theorem hnew_any (u : Bool) (w : World) : Calls Try.prog 8 #[.bool u] w fun e w' => ∃ p M F, e = .returned (.pointer (some ⟨p, 0, none⟩)) ∧ HM w' F p M (.map []) u 0 [] ∧ Below w.heap.size w w' ∧ (∀ k, F k → w.heap.size ≤ k) := by
  have mk : HM ((w.alloc (.map #[] 0)).alloc (.cells #[.bool u, .map (some w.heap.size), .int .i64 0] 61)) (fun k => k = w.heap.size ∨ k = w.heap.size + 1) (w.heap.size + 1) w.heap.size (.map []) u 0 [] :=
    ⟨Blk.new _ _ _ (by simp), ((World.ownsMap_made w Try.prog 26 heldE).alloc _), fun h hh => ⟨.slice none 0 0, rfl, World.ownsRow_nil _ _ _ _, fun k e => by simp [Value.ownBlock] at e⟩, (fun h h' v v' k _ _ q1 _ e _ => by
      have : v = .slice none 0 0 := by
        unfold atH at q1
        have e0 : (DataW.map ([] : List (Lit × DataW Value))).atKey (.int .u64 h) (.held (.slice none 0 0)) = .held (.slice none 0 0) := rfl
        rw [e0] at q1
        injection q1 with q1
        exact q1.symm
      subst this
      simp [Value.ownBlock] at e), (fun c hc => by cases hc), List.Pairwise.nil, List.Pairwise.nil, List.Pairwise.nil, (fun kl hq => by rw [Go.Maps.has_eq] at hq; simp at hq), .inr rfl, .inl rfl, (fun k hk => by rcases hk with rfl | rfl <;> simp <;> omega)⟩
  replace mk := Lib.hid mk
  have hmm := @run_makeMap Try.prog
  go_enter Try.func8, Try.ntmps8
  go_wp2
  go_ret
  exact ⟨_, _, _, rfl, mk.out, (by repeat (first | (with_reducible exact Below.refl _ _) | (with_reducible refine Below.drew ?_) | (with_reducible refine Below.alloc ?_ (by simp [more_size]; try omega) _) | (with_reducible refine Below.setCell ?_ (by simp [more_size]; try omega) _) | (with_reducible refine below_more ?_ _ (by simp [more_size]; try omega)))), fun k hk => by rcases hk with rfl | rfl <;> omega⟩
end Go.Proofs.Ytijegkiapbmekaa
