/- slices.Insert of one number, wherever it goes. -/
import Derived.Test.YtijegkiapbmekaaHins
import Derived.Test.YtijegkiapbmekaaInsert
import Derived.Lib.AppendZeros
import Derived.Lib.AppendZerosOnto
import Derived.Lib.Overlaps
import Derived.Laws.Externs
set_option maxRecDepth 100000
set_option linter.unusedVariables false
set_option linter.unusedSimpArgs false
namespace Go.Proofs.Ytijegkiapbmekaa
open Go.RowKit
attribute [local go_sem] run_frombits run_tobits more_more more_drew more_drewN more_size more_cell more_frozen run_store_float lt_c1 le_c1 lt_s1 le_s1 lt_c2 le_c2 lt_s2 le_s2 lt_c3 le_c3 lt_s3 le_s3 lt_c4 le_c4 lt_s4 le_s4 lt_c5 le_c5 lt_s5 le_s5 lt_c6 le_c6 lt_s6 le_s6 lt_c7 le_c7 lt_s7 le_s7 lt_c8 le_c8 lt_s8 le_s8 lt_c9 le_c9 lt_s9 le_s9 lt_c10 le_c10 lt_s10 le_s10 lt_c11 le_c11 lt_s11 le_s11 lt_c12 le_c12 lt_s12 le_s12 le_c0
section
variable {α : Type}
theorem spl_zero (xs : List α) (i : Nat) (y : α) (zs : List α) (hi : i ≤ xs.length) (hz : zs.length = xs.length + 1 - i) :
    splice (splice (xs.take i ++ zs) i [y]) (i + 1) (xs.drop i) = insAt xs i y := by
  have h0 : (xs.take i).length = i := by rw [List.length_take]; omega
  have e1 : splice (xs.take i ++ zs) i [y] = xs.take i ++ y :: zs.drop 1 := by
    unfold splice
    rw [List.take_left' h0, List.drop_append, h0, List.drop_of_length_le (by rw [h0]; simp), List.nil_append]
    simp
  rw [e1]
  unfold splice insAt
  have e2 : (xs.take i ++ y :: zs.drop 1).take (i + 1) = xs.take i ++ [y] := by
    rw [show xs.take i ++ y :: zs.drop 1 = (xs.take i ++ [y]) ++ zs.drop 1 by simp]
    exact List.take_left' (by simp; omega)
  have e3 : (xs.take i ++ y :: zs.drop 1).drop (i + 1 + (xs.drop i).length) = [] := List.drop_eq_nil_of_le (by simp; omega)
  rw [e2, e3]
  simp
theorem spl_shift (xs : List α) (i : Nat) (y z : α) (hi : i ≤ xs.length) :
    splice (splice (xs ++ [z]) (i + 1) (xs.drop i)) i [y] = insAt xs i y := by
  have e1 : splice (xs ++ [z]) (i + 1) (xs.drop i) = (xs ++ [z]).take (i + 1) ++ xs.drop i := by
    have e : (xs ++ [z]).drop (i + 1 + (xs.drop i).length) = [] := List.drop_eq_nil_of_le (by simp; omega)
    unfold splice
    rw [e, List.append_nil]
  have h0 : ((xs ++ [z]).take (i + 1)).length = i + 1 := by rw [List.length_take]; simp; omega
  rw [e1]
  unfold splice insAt
  have e2 : ((xs ++ [z]).take (i + 1) ++ xs.drop i).take i = xs.take i := by
    rw [List.take_append, List.take_take, show i - ((xs ++ [z]).take (i + 1)).length = 0 by omega, show min i (i + 1) = i by omega, List.take_append_of_le_length hi]
    simp
  have e3 : ((xs ++ [z]).take (i + 1) ++ xs.drop i).drop (i + [y].length) = xs.drop i := by
    rw [List.drop_append, h0, List.drop_of_length_le (by rw [h0]; simp)]
    simp
  rw [e2, e3]
  simp
theorem insAt_map {β : Type} (f : α → β) (xs : List α) (i : Nat) (y : α) : insAt (xs.map f) i (f y) = (insAt xs i y).map f := by
  unfold insAt
  simp [List.map_take, List.map_drop]
theorem insAt_end (xs : List α) (y : α) : insAt xs xs.length y = xs ++ [y] := by
  unfold insAt
  simp
end
theorem wpList_copy_own9 {P : Program} {w : World} {ops : Array Oper} {rest : List Oper} {o : Oper} {a : Act} {Q : Exit → Act → World → Prop} (hgd : o.guard = none) (d s : Operand) (dT sT : TypeId)
    (ho : o.op = .call { callee := .builtin .copy, args := #[d, s], argTypes := #[dT, sT] }) (elem : TypeId) (size : Nat) (hu : P.underlying dT = some (.slice elem)) (hsz : (P.info? elem).map (·.size) = some size)
    (dp sp : Option Addr) (dLen dCap sLen sCap : Nat) (hd : a.eval d = .slice dp dLen dCap) (hs : a.eval s = .slice sp sLen sCap)
    (base : Nat) (e : TypeId) (v : Value) (n : Nat) (xs : List Value) (g cap : Nat) (hv : v = .slice (some ⟨g, 0, none⟩) n cap) (own : w.ownsRow base e size v n xs)
    (off m : Nat) (hm : m = Nat.min sLen dLen) (cs : List Value) (hcs : cs.length = m * size) (hpos : 0 < m → dp = some ⟨g, off, none⟩ ∧ ∃ ad, sp = some ad ∧ ∀ j u, cs[j]? = some u → w.cell? (ad.add j) = some u)
    (hfit : off + cs.length ≤ xs.length) (h1 : ∀ u ∈ cs, u.oneCell' = true)
    (h : ∀ w', w'.ownsRow base e size v n (splice xs off cs) → w.grownBy w' (some g) → wpList P ops Q rest (a.put o.dst (goInt m)) w') : wpList P ops Q (o :: rest) a w := by
  refine wpList_plain hgd fun K hK => ?_
  obtain ⟨w', hrun, h2, h3⟩ := run_copy_own (P := P) w dT sT o.type elem size hu hsz dp sp dLen dCap sLen sCap base e v n xs g cap hv own off m hm cs hcs hpos hfit h1
  unfold Oper.wp
  simp [execOp, ho, resolve, invoke, builtin, hd, hs, hrun, Result.andThen]
  exact hK _ _ (h w' h2 h3)
theorem own_extend {w : World} {base : Nat} {e : TypeId} {g n cap : Nat} {xs : List Value} (h : w.ownsRow base e 1 (.slice (some ⟨g, 0, none⟩) n cap) n xs) (hn : n + 1 ≤ cap) : ∃ z, w.ownsRow base e 1 (.slice (some ⟨g, 0, none⟩) (n + 1) cap) (n + 1) (xs ++ [z]) := by
  rcases h with ⟨hlen, ⟨hv, h0⟩ | ⟨g', cap', cur, hv, hge, hblk, hnc, hcm, hcs, htake⟩⟩
  · cases hv
  · injection hv with h1 h2 h3
    subst h3
    have hs : n < cur.toList.length := by rw [Array.length_toList, hcs]; omega
    refine ⟨cur.toList[n], by simp [hlen], .inr ⟨g', cap, cur, by rw [h1], hge, hblk, hn, hcm, hcs, ?_⟩⟩
    rw [Nat.mul_one] at htake ⊢
    rw [List.take_succ_eq_append_getElem hs, htake]
theorem own_src {w : World} {base : Nat} {e : TypeId} {g n cap : Nat} {xs : List Value} (h : w.ownsRow base e 1 (.slice (some ⟨g, 0, none⟩) n cap) n xs) (i : Nat) : ∀ j u, (xs.drop i)[j]? = some u → w.cell? ((⟨g, i, none⟩ : Addr).add j) = some u := fun j u hu => by
  rw [Go.WideShapes.add_plain]
  refine (own_at h).2.2.2.2.1 (i + j) u ?_
  rwa [List.getElem?_drop] at hu
theorem own_form1 {w : World} {base : Nat} {e : TypeId} {A : Option Addr} {n c : Nat} {xs : List Value} (h : w.ownsRow base e 1 (.slice A n c) n xs) : (A = none ∧ n = 0 ∧ c = 0) ∨ ∃ g, A = some ⟨g, 0, none⟩ := by
  rcases h.2 with ⟨hv, h0⟩ | ⟨g, cap, cur, hv, _⟩
  · injection hv with h1 h2 h3; exact .inl ⟨h1, h0, h3⟩
  · injection hv with h1 h2 h3; exact .inr ⟨g, h1⟩
set_option maxHeartbeats 8000000 in
/-- slices.Insert in the middle, with room -/
theorem sins_shift (ids : List Int) (b n cap base i g : Nat) (x : Int) (w : World) (hn : ids.length = n) (own : w.ownsRow base 2 1 (.slice (some ⟨b, 0, none⟩) n cap) n (ids.map idI)) (hi : i < n) (hroom : n + 1 ≤ cap) (hl : n ≤ 1000) (hg : Blk w g #[idI x] 2) (hgb : g ≠ b) :
    Calls Try.prog 29 #[.slice (some ⟨b, 0, none⟩) n cap, .int .i64 i, .slice (some ⟨g, 0, none⟩) 1 1] w fun e w' => e = .returned (.slice (some ⟨b, 0, none⟩) (n + 1) cap) ∧ w'.ownsRow base 2 1 (.slice (some ⟨b, 0, none⟩) (n + 1) cap) (n + 1) ((insAt ids i x).map idI) ∧ w.grownBy w' (some b) := by
  obtain ⟨i0, hi0, hz0, hz1, hz2⟩ := info_parts info_i64
  have hszi : (Try.prog.info? 2).map (·.size) = some 1 := by rw [hi0]; simp [hz1]
  obtain ⟨z, own1⟩ := own_extend own hroom
  obtain ⟨q1, q2, q3, q4, q5, q6⟩ := own_at own1
  have hov : ∀ lb cb, (callFunc 47 #[.slice (some ⟨g, 0, none⟩) 1 1, .slice (some ⟨b, i + 1, none⟩) lb cb]).run Try.prog w = .ok (.value (.bool false)) w := fun lb cb => by
    obtain ⟨cur, hcur, hsz⟩ : ∃ cur, w.heap[b]? = some (.cells cur 2 (0, 0)) ∧ cur.size = cap := by
      rcases own1.2 with ⟨hv, _⟩ | ⟨g', cap', cur, hv, _, hblk, _, _, hcs, _⟩
      · cases hv
      · injection hv with h1 h2 h3
        injection h1 with h1
        injection h1 with h1
        subst h1 h3
        exact ⟨cur, hblk, by omega⟩
    have hsa : w.shape? g = some (2, 1) := by simp [World.shape?, show w.heap[g]? = _ from hg]
    have hsb : w.shape? b = some (2, cap) := by simp [World.shape?, hcur, hsz]
    rw [run_callFunc_extern Try.func47 (by kernel_rfl) (by kernel_rfl) (by kernel_rfl) (e := Extern.SlicesOverlaps.overlaps #[34, 34] #[4]) (by kernel_rfl),
      Lib.run_overlaps_apart w 34 4 2 Try.underlying34 1 Try.sizeOf2 ⟨g, 0, none⟩ ⟨b, i + 1, none⟩ 1 1 lb cb hgb 2 2 1 cap hsa hsb (by omega) (hg.free 0) (hg.free 1)]
    rfl
  have hdl : ((ids.map idI).drop i).length = n - i := by rw [List.length_drop, List.length_map, hn]
  have src := own_src own1 i
  have cs1 : ∀ u ∈ (ids.map idI).drop i, u.oneCell' = true := fun u hu => by
    obtain ⟨y, _, rfl⟩ := List.mem_map.1 (List.mem_of_mem_drop hu); rfl
  have src1 : ∀ j u, ((ids.map idI).drop i)[j]? = some u → w.drew.cell? ((⟨b, i, none⟩ : Addr).add j) = some u := fun j u hu => by
    refine src j u ?_
    rw [List.drop_append, List.getElem?_append_left ?_]
    · exact hu
    · rcases Nat.lt_or_ge j ((ids.map idI).drop i).length with q | q
      · exact q
      · rw [List.getElem?_eq_none q] at hu; cases hu
  have fit1 : i + 1 + ((ids.map idI).drop i).length ≤ (ids.map idI ++ [z]).length := by rw [hdl]; simp; omega
  have FIN := Lib.hid (show splice (splice (ids.map idI ++ [z]) (i + 1) ((ids.map idI).drop i)) i [idI x] = (insAt ids i x).map idI from by
    rw [spl_shift _ _ _ _ (by simp; omega), insAt_map])
  have fit2 : i + [idI x].length ≤ (splice (ids.map idI ++ [z]) (i + 1) ((ids.map idI).drop i)).length := by
    rw [length_splice _ _ _ fit1]; simp; omega
  have own1' : w.drew.ownsRow base 2 1 (.slice (some ⟨b, 0, none⟩) (n + 1) cap) (n + 1) (ids.map idI ++ [z]) := own1
  obtain ⟨L1, hL1⟩ : ∃ L1, L1 = ids.map idI ++ [z] := ⟨_, rfl⟩
  obtain ⟨C1, hC1⟩ : ∃ C1, C1 = (ids.map idI).drop i := ⟨_, rfl⟩
  rw [← hL1, ← hC1] at FIN fit2 fit1
  rw [← hC1] at src1 cs1 hdl
  rw [← hL1] at own1'
  obtain ⟨L2, hL2⟩ : ∃ L2, L2 = splice L1 (i + 1) C1 := ⟨_, rfl⟩
  rw [← hL2] at FIN fit2
  have hgl := hg.lt
  have hgc := Lib.hid (hg.cell 0)
  have hz : ((n : Int) + 1 ≤ (cap : Int)) := by omega
  have hz3 : ((cap : Int) < (n : Int) + 1) = False := eq_false (by omega)
  have hz2 : ((i : Int) == (n : Int)) = false := by simp; omega
  have hw1 : IntKind.i64.wrap ((i : Int) + 1) = (i : Int) + 1 := IntWalk.i64_in _ (by omega)
  have hw2 : IntKind.i64.wrap ((n : Int) + 1) = (n : Int) + 1 := IntWalk.i64_in _ (by omega)
  have htn : ((i : Int) + 1).toNat = i + 1 := by omega
  have htn2 : ((n : Int) + 1).toNat = n + 1 := by omega
  have hb1 : (0 : Int) ≤ (i : Int) + 1 := by omega
  have hb3 : (i : Int) ≤ (n : Int) + 1 := by omega
  have hb2 : ¬ (cap = i + 1) := by omega
  have hb4 : ¬ (cap = i) := by omega
  have hin : i ≤ n := by omega
  clear own own1 src q1 q2 q3 q5 q6 hg hn hL1 hC1
  replace hL2 := Lib.hid hL2
  replace own1' := Lib.hid own1'
  go_enter Try.func29, Try.ntmps29
  go_wp2_with (first | simp only [hov] | fail)
  go_region_law (refine step_copy_own (by rfl) (.tmp 73) (.tmp 76) 34 34 (by rfl) 2 1 Try.underlying34 hszi (some ⟨b, i + 1, none⟩) (some ⟨b, i, none⟩) (n - i) (cap - (i + 1)) (n + 1 - i) (cap - i) (by kernel_rfl) (by kernel_rfl) base 2 (.slice (some ⟨b, 0, none⟩) (n + 1) cap) (n + 1) L1 b cap rfl own1'.out (i + 1) (n - i) (show _ = min _ _ by omega) C1 (by rw [hdl, Nat.mul_one]) (fun _ => ⟨rfl, _, rfl, src1⟩) fit1 cs1 ?_; intro w4 own4 grow4)
  all_goals
    rw [← hL2.out] at own4
    have own4h := Lib.hid own4
    have grow4h := Lib.hid grow4
    have src2 := Lib.hid (show ∀ j u, [idI x][j]? = some u → w4.cell? ((⟨g, 0, none⟩ : Addr).add j) = some u from fun j u hu => by
      cases j with
      | zero =>
        rw [Go.WideShapes.add_plain]
        have e := World.cell?_of_block (w := w) (a := ⟨g, 0, none⟩) (w' := w4) (grow4.block g hgl (fun e => hgb (by injection e)))
        exact e.trans (hgc.out.trans hu)
      | succ j => simp at hu)
    clear own4 grow4 src1
    go_wp2_with (first | (refine wpList_copy_own9 rfl _ _ 34 34 rfl 2 1 Try.underlying34 hszi (some ⟨b, i, none⟩) (some ⟨g, 0, none⟩) _ _ 1 1 rfl rfl base 2 (.slice (some ⟨b, 0, none⟩) (n + 1) cap) (n + 1) L2 b cap rfl own4h.out i 1 (show _ = min _ _ by omega) [idI x] rfl (fun _ => ⟨rfl, _, rfl, src2.out⟩) fit2 (fun u hu => by simp at hu; subst hu; rfl) ?_; intro w5 own5 grow5) | fail)
    rw [FIN.out] at own5
    go_ret
    exact ⟨rfl, own5, grown_trans (grown_drew grow4h.out) grow5⟩
theorem zeros_toList (z : Value) (k : Nat) : (Builtin.zeroCells #[z] k).toList = List.replicate k z := by
  unfold Builtin.zeroCells
  apply List.ext_getElem?
  intro j
  simp only [List.getElem?_replicate]
  by_cases h : j < k
  · simp [h, Nat.mod_one]
  · simp [h]
set_option maxHeartbeats 8000000 in
/-- slices.Insert in the middle, without room -/
theorem sins_grow (ids : List Int) (b n cap i g : Nat) (x : Int) (w : World) (hn : ids.length = n) (own : w.ownsRow 0 2 1 (.slice (some ⟨b, 0, none⟩) n cap) n (ids.map idI)) (hi : i < n) (hroom : cap < n + 1) (hl : n ≤ 1000) (hg : Blk w g #[idI x] 2) :
    Calls Try.prog 29 #[.slice (some ⟨b, 0, none⟩) n cap, .int .i64 i, .slice (some ⟨g, 0, none⟩) 1 1] w fun e w' => ∃ G, e = .returned (.slice (some ⟨w.heap.size, 0, none⟩) (n + 1) G) ∧ w'.ownsRow w.heap.size 2 1 (.slice (some ⟨w.heap.size, 0, none⟩) (n + 1) G) (n + 1) ((insAt ids i x).map idI) ∧ Below w.heap.size w w' := by
  obtain ⟨i0, hi0, hz0, hz1, hz2⟩ := info_parts info_i64
  have hszi : (Try.prog.info? 2).map (·.size) = some 1 := by rw [hi0]; simp [hz1]
  obtain ⟨q1, q2, q3, q4, q5, q6⟩ := own_at own
  have hxl : (ids.map idI).length = n := by simp [hn]
  have hold : (Builtin.firstCells i0.size i (.slice (some ⟨b, 0, none⟩) i cap)).run Try.prog w.drew = .ok ((ids.map idI).take i).toArray w.drew := by
    rw [hz1]
    exact run_firstCells_some w.drew 1 i ⟨b, 0, none⟩ i cap ((ids.map idI).take i) (by rw [List.length_take]; omega) (fun j v hj => by
      rw [Go.WideShapes.add_plain, Nat.zero_add]
      rw [List.getElem?_take] at hj
      split at hj
      · exact q5 j v hj
      · cases hj)
  have hkk : (n : Int) + 1 - (i : Int) = ((n + 1 - i : Nat) : Int) := by omega
  have hik : i + (n + 1 - i) = n + 1 := by omega
  have hrz : ∀ ty, (Builtin.append_ #[34, 3] ty #[.slice (some ⟨b, 0, none⟩) i cap, .int .i64 ((n : Int) + 1 - (i : Int))]).run Try.prog w =
      .ok (.slice (some ⟨w.heap.size, 0, none⟩) (n + 1) (grownCap w (n + 1) cap 2)) (w.drew.alloc (.cells (((ids.map idI).take i).toArray ++ Builtin.zeroCells (Value.int .i64 0).cells (n + 1 - i) ++ Builtin.zeroCells (Value.int .i64 0).cells (grownCap w (n + 1) cap 2 - (n + 1))) 2)) := fun ty => by
    have h := Lib.run_append_grow_zeros w 34 3 ty 2 i0 _ .i64 .i64 Try.underlying34 Try.underlying3 hi0 hz0 (some ⟨b, 0, none⟩) i cap ((ids.map idI).take i) hold (n + 1 - i) (by omega) (by omega) (by omega) (by omega) (by rw [hz2]; omega) (by rw [hz2, hik]; exact growslice_fits hroom (by omega))
    rw [hik] at h
    rw [hkk]
    exact h
  obtain ⟨G, hG⟩ : ∃ G, G = grownCap w (n + 1) cap 2 := ⟨_, rfl⟩
  have hGn : n + 1 ≤ G := by rw [hG]; exact grownCap_ge w _ _ _
  have hG63 : G ≤ maxLen := by rw [hG]; exact grownCap_le_maxLen w _ _ _ (by unfold maxLen; omega)
  rw [← hG] at hrz
  obtain ⟨ROW, hROW⟩ : ∃ ROW : Array Value, ROW = ((ids.map idI).take i).toArray ++ Builtin.zeroCells (Value.int .i64 0).cells (n + 1 - i) ++ Builtin.zeroCells (Value.int .i64 0).cells (G - (n + 1)) := ⟨_, rfl⟩
  rw [← hROW] at hrz
  have hti : ((ids.map idI).take i).length = i := by rw [List.length_take]; omega
  have hzl : ∀ k, (Builtin.zeroCells (Value.int .i64 0).cells k).toList = List.replicate k (.int .i64 0) := fun k => zeros_toList _ k
  have hRl : ROW.toList = (ids.map idI).take i ++ List.replicate (n + 1 - i) (.int .i64 0) ++ List.replicate (G - (n + 1)) (.int .i64 0) := by
    rw [hROW, Array.toList_append, Array.toList_append, hzl, hzl]
  have hRs : ROW.size = G := by
    rw [← Array.length_toList, hRl]
    simp
    omega
  have ownN : Hid ((w.drew.alloc (.cells ROW 2)).ownsRow w.heap.size 2 1 (.slice (some ⟨w.heap.size, 0, none⟩) (n + 1) G) (n + 1) ((ids.map idI).take i ++ List.replicate (n + 1 - i) (.int .i64 0))) := Lib.hid ⟨by simp; omega, .inr ⟨w.heap.size, G, ROW, rfl, Nat.le_refl _, by
    show (w.drew.heap.push _)[w.heap.size]? = _
    exact Array.getElem?_push_size, hGn, hG63, by rw [hRs, Nat.mul_one], by
    rw [hRl, Nat.mul_one]
    exact List.take_left' (by simp; omega)⟩⟩
  obtain ⟨L1, hL1⟩ : ∃ L1, L1 = (ids.map idI).take i ++ List.replicate (n + 1 - i) (Value.int .i64 0) := ⟨_, rfl⟩
  obtain ⟨C1, hC1⟩ : ∃ C1, C1 = (ids.map idI).drop i := ⟨_, rfl⟩
  have hdl : C1.length = n - i := by rw [hC1, List.length_drop, hxl]
  have cs1 : ∀ u ∈ C1, u.oneCell' = true := fun u hu => by
    rw [hC1] at hu
    obtain ⟨y, _, rfl⟩ := List.mem_map.1 (List.mem_of_mem_drop hu); rfl
  have FIN := Lib.hid (show splice (splice L1 i [idI x]) (i + 1) C1 = (insAt ids i x).map idI from by
    rw [hL1, hC1, spl_zero _ _ _ _ (by omega) (by simp; omega), insAt_map])
  have hL1l : L1.length = n + 1 := by rw [hL1]; simp; omega
  rw [← hL1] at ownN
  obtain ⟨L2, hL2⟩ : ∃ L2, L2 = splice L1 i [idI x] := ⟨_, rfl⟩
  have fit1 : i + [idI x].length ≤ L1.length := by rw [hL1l]; simp; omega
  have fit2 : i + 1 + C1.length ≤ L2.length := by rw [hL2, length_splice _ _ _ fit1, hdl]; omega
  rw [← hL2] at FIN
  have hgl := hg.lt
  have srcF := Lib.hid (show ∀ (W : World), Below w.heap.size w W → ∀ j u, C1[j]? = some u → W.cell? ((⟨b, i, none⟩ : Addr).add j) = some u from fun W hW j u hu => by
    rw [Go.WideShapes.add_plain]
    rw [hC1, List.getElem?_drop] at hu
    exact (hW.cell q4).trans (q5 _ _ hu))
  have srcG := Lib.hid (show ∀ (W : World), Below w.heap.size w W → ∀ j u, [idI x][j]? = some u → W.cell? ((⟨g, 0, none⟩ : Addr).add j) = some u from fun W hW j u hu => by
    cases j with
    | zero =>
      rw [Go.WideShapes.add_plain]
      exact (hW.cell hgl).trans ((hg.cell 0).trans hu)
    | succ j => simp at hu)
  have hz : ((i : Int) ≤ (cap : Int)) := by omega
  have hz3 : ((cap : Int) < (n : Int) + 1) := by omega
  have hz2 : ((i : Int) == (n : Int)) = false := by simp; omega
  have hw1 : IntKind.i64.wrap ((i : Int) + 1) = (i : Int) + 1 := IntWalk.i64_in _ (by omega)
  have hw2 : IntKind.i64.wrap ((n : Int) + 1) = (n : Int) + 1 := IntWalk.i64_in _ (by omega)
  have hw3 : IntKind.i64.wrap ((n : Int) + 1 - (i : Int)) = (n : Int) + 1 - (i : Int) := IntWalk.i64_in _ (by omega)
  have htn : ((i : Int) + 1).toNat = i + 1 := by omega
  have htn2 : ((n : Int) + 1).toNat = n + 1 := by omega
  have hb1 : (0 : Int) ≤ (i : Int) + 1 := by omega
  have hb3 : (i : Int) ≤ (n : Int) + 1 := by omega
  have hb5 : (i : Int) ≤ (n : Int) := by omega
  have hGi : ¬ (G = i) := by omega
  have hGim : ¬ (G = i + 1) := by omega
  have hci : ¬ (cap = i) := by omega
  have hin : i ≤ n := by omega
  have hbA : Hid (Below w.heap.size w (w.drew.alloc (.cells ROW 2))) := Lib.hid (by repeat (first | (with_reducible exact Below.refl _ _) | (with_reducible refine Below.drew ?_) | (with_reducible refine Below.alloc ?_ (by simp [more_size]; try omega) _) | (with_reducible refine Below.setCell ?_ (by simp [more_size]; try omega) _) | (with_reducible refine below_more ?_ _ (by simp [more_size]; try omega))))
  have hG64 : G ≤ 9223372036854775807 := by unfold maxLen at hG63; omega
  clear own q1 q2 q3 q5 q6 hg hn hL1 hC1 hxl hold hkk hik hG hROW hti hzl hRl hRs hG63
  replace hL2 := Lib.hid hL2
  go_enter Try.func29, Try.ntmps29
  go_wp2_with (first
    | (at_builtin; refine Lib.wpList_append_run _ rfl _ _ _ _ rfl _ _ rfl rfl _ _ (hrz _) ?_)
    | (refine wpList_copy_own9 rfl _ _ 34 34 rfl 2 1 Try.underlying34 hszi (some ⟨w.heap.size, i, none⟩) (some ⟨g, 0, none⟩) _ _ 1 1 rfl rfl w.heap.size 2 (.slice (some ⟨w.heap.size, 0, none⟩) (n + 1) G) (n + 1) L1 w.heap.size G rfl ownN.out i 1 (show _ = min _ _ by omega) [idI x] rfl (fun _ => ⟨rfl, _, rfl, srcG.out _ hbA.out⟩) fit1 (fun u hu => by simp at hu; subst hu; rfl) ?_; intro w5 own5 grow5) | fail)
  rw [← hL2.out] at own5
  have hb5w := Lib.hid (hbA.out.trans (grown_below (B := w.heap.size) grow5 (by simp) (fun g e => by injection e with e; omega)))
  have own5h : Hid (w5.drew.ownsRow w.heap.size 2 1 (.slice (some ⟨w.heap.size, 0, none⟩) (n + 1) G) (n + 1) L2) := Lib.hid own5
  have src1 := srcF.out w5.drew (hb5w.out.drew)
  clear own5 grow5 ownN srcF srcG hrz
  go_region_law (refine step_copy_own (by rfl) (.tmp 50) (.tmp 53) 34 34 (by rfl) 2 1 Try.underlying34 hszi (some ⟨w.heap.size, i + 1, none⟩) (some ⟨b, i, none⟩) (n - i) (G - (i + 1)) (n - i) (cap - i) (by kernel_rfl) (by kernel_rfl) w.heap.size 2 (.slice (some ⟨w.heap.size, 0, none⟩) (n + 1) G) (n + 1) L2 w.heap.size G rfl own5h.out (i + 1) (n - i) (show _ = min _ _ by omega) C1 (by rw [hdl, Nat.mul_one]) (fun _ => ⟨rfl, _, rfl, src1⟩) fit2 cs1 ?_; intro w6 own6 grow6)
  rw [FIN.out] at own6
  have o6 := Lib.hid own6
  have b6 := Lib.hid (hb5w.out.trans (grown_below (B := w.heap.size) (grown_drew grow6) hb5w.out.size (fun g e => by injection e with e; omega)))
  clear own6 grow6 src1 own5h
  go_wp2
  go_ret
  exact ⟨G, rfl, o6.out, b6.out⟩
set_option maxHeartbeats 8000000 in
/-- slices.Insert behind all -/
theorem sins_end (ids : List Int) (A : Option Addr) (n cap base g : Nat) (x : Int) (w : World) (hn : ids.length = n) (own : w.ownsRow base 2 1 (.slice A n cap) n (ids.map idI)) (hb : base ≤ w.heap.size) (hl : n ≤ 1000) (hg : Blk w g #[idI x] 2) :
    Calls Try.prog 29 #[.slice A n cap, .int .i64 n, .slice (some ⟨g, 0, none⟩) 1 1] w fun e w' => ∃ v, e = .returned v ∧ w'.ownsRow base 2 1 v (n + 1) (ids.map idI ++ [idI x]) ∧ w.grownBy w' (Value.slice A n cap).ownBlock ∧ (v.ownBlock = (Value.slice A n cap).ownBlock ∨ v.ownBlock = some w.heap.size) := by
  obtain ⟨i0, hi, hz0, hz1, hz2⟩ := info_parts info_i64
  have news := Lib.hid (show ∀ ad, some (⟨g, 0, none⟩ : Addr) = some ad → ∀ j u, [idI x][j]? = some u → w.cell? (ad.add j) = some u from fun ad e j u hu => by
    cases e
    cases j with
    | zero => rw [Go.WideShapes.add_plain]; exact (hg.cell 0).trans hu
    | succ j => simp at hu)
  have hnc : n ≤ cap := by
    rcases own_form1 own with ⟨_, rfl, rfl⟩ | ⟨b, rfl⟩
    · exact Nat.le_refl _
    · exact (own_at own).1
  have hcc : cap ≤ 9223372036854775807 := by
    rcases own_form1 own with ⟨_, rfl, rfl⟩ | ⟨b, rfl⟩
    · omega
    · exact (own_at own).2.1
  obtain ⟨X, hX⟩ : ∃ X, X = ids.map idI := ⟨_, rfl⟩
  rw [← hX] at own ⊢
  have own9 := Lib.hid own
  have form := own_form1 own
  clear own hg hX hn
  rcases form with ⟨rfl, rfl, rfl⟩ | ⟨b, rfl⟩
  · go_enter Try.func29, Try.ntmps29
    go_wp2_with (first
      | (at_builtin; refine wpList_append_row rfl _ _ 34 rfl base 2 i0 _ 1 8 Try.underlying34 hi hz0 hz1 hz2 rfl (by decide) (.slice none 0 0) 0 X rfl own9.out (some ⟨g, 0, none⟩) 1 1 [idI x] rfl (fun e => by cases e) rfl news.out (fun u hu => by simp at hu; subst hu; rfl) (by unfold maxLen; omega) (by omega) hb ?_; intro v2 W2 own2 grow2 loc2)
      | fail)
    go_ret
    exact ⟨_, rfl, own2, grow2, loc2⟩
  · go_enter Try.func29, Try.ntmps29
    go_wp2_with (first
      | (at_builtin; refine wpList_append_row rfl _ _ 34 rfl base 2 i0 _ 1 8 Try.underlying34 hi hz0 hz1 hz2 rfl (by decide) (.slice (some ⟨b, 0, none⟩) n cap) n X rfl own9.out (some ⟨g, 0, none⟩) 1 1 [idI x] rfl (fun e => by cases e) rfl news.out (fun u hu => by simp at hu; subst hu; rfl) (by unfold maxLen; omega) (by omega) hb ?_; intro v2 W2 own2 grow2 loc2)
      | fail)
    all_goals
      go_ret
      exact ⟨_, rfl, own2, grow2, loc2⟩
/-- slices.Insert of one number -/
theorem sins_any (ids : List Int) (A : Option Addr) (cap i g : Nat) (x : Int) (w : World) (own : w.ownsRow 0 2 1 (.slice A ids.length cap) ids.length (ids.map idI)) (hi : i ≤ ids.length) (hl : ids.length ≤ 1000) (hg : Blk w g #[idI x] 2) (hgb : (Value.slice A ids.length cap).ownBlock ≠ some g) :
    Calls Try.prog 29 #[.slice A ids.length cap, .int .i64 i, .slice (some ⟨g, 0, none⟩) 1 1] w fun e w' => ∃ v, e = .returned v ∧ w'.ownsRow 0 2 1 v (insAt ids i x).length ((insAt ids i x).map idI) ∧ w.grownBy w' (Value.slice A ids.length cap).ownBlock ∧ (v.ownBlock = (Value.slice A ids.length cap).ownBlock ∨ v.ownBlock = some w.heap.size) := by
  rw [insAt_length]
  rcases Nat.lt_or_ge i ids.length with h | h
  · obtain ⟨b, rfl⟩ : ∃ b, A = some ⟨b, 0, none⟩ := by
      rcases own_form1 own with ⟨_, q, _⟩ | q
      · omega
      · exact q
    rcases Nat.lt_or_ge cap (ids.length + 1) with hc | hc
    · refine (sins_grow ids b _ cap i g x w rfl own h hc hl hg).mono ?_
      rintro e w' ⟨G, rfl, o, hB⟩
      exact ⟨_, rfl, own_lower o (Nat.zero_le _), ⟨hB.os, hB.tape, hB.output, hB.size, fun k hk _ => hB.block k hk⟩, .inr rfl⟩
    · refine (sins_shift ids b _ cap 0 i g x w rfl own h hc hl hg (fun e => hgb (by rw [e]; rfl))).mono ?_
      rintro e w' ⟨rfl, o, hG⟩
      exact ⟨_, rfl, o, hG, .inl rfl⟩
  · have : i = ids.length := by omega
    subst this
    refine (sins_end ids A _ cap 0 g x w rfl own (Nat.zero_le _) hl hg).mono ?_
    rintro e w' ⟨v, rfl, o, hG, hL⟩
    refine ⟨v, rfl, ?_, hG, hL⟩
    rw [insAt_end, List.map_append]
    exact o
end Go.Proofs.Ytijegkiapbmekaa
