/- slices.DeleteFunc at rows of numbers and rows of chains. -/
import Derived.Test.YtijegkiapbmekaaHget
import Derived.Shelf.SlicesE.DeleteFunc
import Derived.Ground.SlgfProg
import Derived.LaidEqlPtr
set_option maxRecDepth 100000
set_option linter.unusedVariables false
set_option linter.unusedSimpArgs false
namespace Go.Proofs.Ytijegkiapbmekaa
open Go.RowKit Go.Sort Go.Shelf
shelf_lay_g SlLaysH.n10 Slgf 10 at Try 31 as Try.del9
shelf_lay_g SlLaysH.n10 Slgf 10 at Try 33 as Try.delC9
attribute [local go_sem] run_frombits run_tobits more_more more_drew more_drewN more_size more_cell more_frozen run_store_float lt_c1 le_c1 lt_s1 le_s1 lt_c2 le_c2 lt_s2 le_s2 lt_c3 le_c3 lt_s3 le_s3 lt_c4 le_c4 lt_s4 le_s4 lt_c5 le_c5 lt_s5 le_s5 lt_c6 le_c6 lt_s6 le_s6 lt_c7 le_c7 lt_s7 le_s7 lt_c8 le_c8 lt_s8 le_s8 lt_c9 le_c9 lt_s9 le_s9 lt_c10 le_c10 lt_s10 le_s10 lt_c11 le_c11 lt_s11 le_s11 lt_c12 le_c12 lt_s12 le_s12 le_c0
section
variable {α : Type} [Inhabited α]
theorem heap_put9 (enc : α → Value) {w : World} {g q : Nat} {cur : Array Value} {e : TypeId} {fr : Nat × Nat} (d : Array α) (hb : w.heap[g]? = some (.cells cur e fr)) :
    (putRow enc (Sort.ahead w q) g 0 d).heap[g]? = some (.cells (putCells enc 0 d cur) e fr) := by
  simp [putRow, mapBlock, Sort.ahead, Array.getElem?_modify, hb, onCells]
theorem grown_put9 (enc : α → Value) (w : World) (g q : Nat) (d : Array α) : w.grownBy (putRow enc (Sort.ahead w q) g 0 d) (some g) := by
  refine ⟨rfl, rfl, rfl, by simp, fun k hk hne => ?_⟩
  have : g ≠ k := fun e => hne (by rw [e])
  simp [putRow, mapBlock, Sort.ahead, Array.getElem?_modify, this]
theorem take_put9 (enc : α → Value) (cur : Array Value) (ts zs : List α) (h : ts.length + zs.length ≤ cur.size) : (putCells enc 0 (ts ++ zs).toArray cur).toList.take ts.length = ts.map enc := by
  apply List.ext_getElem?
  intro j
  by_cases hj : j < ts.length
  · rw [List.getElem?_take_of_lt hj, Array.getElem?_toList]
    simp [putCells, hj, show j < cur.size by omega, show j < ts.length + zs.length by omega, List.getElem_append_left hj]
  · rw [List.getElem?_take_eq_none (by omega), List.getElem?_eq_none (by simp; omega)]
theorem own_put9 (enc : α → Value) {w : World} {base g cap q : Nat} {e : TypeId} {cur : Array Value} {ts zs : List α} (hbase : base ≤ g) (hb : w.heap[g]? = some (.cells cur e (0, 0))) (h1 : ts.length + zs.length ≤ cap) (h2 : cap ≤ maxLen) (h3 : cur.size = cap * 1) :
    (putRow enc (Sort.ahead w q) g 0 (ts ++ zs).toArray).ownsRow base e 1 (.slice (some ⟨g, 0, none⟩) ts.length cap) ts.length (ts.map enc) :=
  ⟨by simp, .inr ⟨g, cap, _, rfl, hbase, heap_put9 enc _ hb, by omega, h2, by simp [putCells, h3], by rw [Nat.mul_one]; exact take_put9 enc cur ts zs (by omega)⟩⟩
theorem holds_put9 (enc : α → Value) {w : World} {g : Nat} {cur : Array Value} {e : TypeId} {ss : List α} (hb : w.heap[g]? = some (.cells cur e (0, 0))) (ht : cur.toList.take ss.length = ss.map enc) : Holds enc w g 0 ss.toArray := by
  intro j hj
  have hj' : j < ss.length := by simpa using hj
  refine ⟨?_, by simp [World.frozen?, hb]⟩
  have h1 : (cur.toList.take ss.length)[j]? = (ss.map enc)[j]? := by rw [ht]
  rw [List.getElem?_take_of_lt hj'] at h1
  simp only [World.cell?, hb, Nat.zero_add]
  simp only [Option.isSome_none, Bool.false_eq_true, if_false]
  rw [← Array.getElem?_toList, h1]
  simp [hj']
theorem sort_blk9 (enc : α → Value) {W : World} {blk off n k : Nat} {os : Array Obj} {dk : Array α} (hk : k < W.heap.size) (hne : k ≠ blk) : (sortWorld enc W blk off n dk os).heap[k]? = W.heap[k]? := by
  unfold sortWorld
  rw [heap_grow_old _ _ (by simpa using hk)]
  simp [putRow, mapBlock, Sort.ahead, Array.getElem?_modify, Ne.symm hne]
end
/-- the test of Erase's first closure -/
theorem era1_any (y x : Int) (B : Nat) (W : World) (hc : W.cell? ⟨B, 0, none⟩ = some (.int .i64 x)) :
    FnGives Try.prog 32 #[.pointer (some ⟨B, 0, none⟩)] #[.int .i64 y] (.bool (y == x)) W := by
  show Calls Try.prog 32 #[.int .i64 y, .pointer (some ⟨B, 0, none⟩)] W _
  go_enter Try.func32, Try.ntmps32
  go_wp2
  all_goals (go_ret; exact ⟨rfl, 0, rfl⟩)
theorem del_ids (ids : List Int) (b cap base B : Nat) (x : Int) (w : World) (own : w.ownsRow base 2 1 (.slice (some ⟨b, 0, none⟩) ids.length cap) ids.length (ids.map idI)) (hB : Blk w B #[.int .i64 x] 2) (hne : B ≠ b) :
    Calls Try.prog 31 #[.slice (some ⟨b, 0, none⟩) ids.length cap, .func (.func 32) #[] #[.pointer (some ⟨B, 0, none⟩)]] w fun e w' => e = .returned (.slice (some ⟨b, 0, none⟩) (ids.filter (fun y => !(y == x))).length cap) ∧
      w'.ownsRow base 2 1 (.slice (some ⟨b, 0, none⟩) (ids.filter (fun y => !(y == x))).length cap) (ids.filter (fun y => !(y == x))).length ((ids.filter (fun y => !(y == x))).map idI) ∧ w.grownBy w' (some b) := by
  obtain ⟨q1, q2, q3, q4, _, _⟩ := own_at own
  obtain ⟨cur, hcur, hsz, htk⟩ : ∃ cur, w.heap[b]? = some (.cells cur 2 (0, 0)) ∧ cur.size = cap * 1 ∧ cur.toList.take ids.length = ids.map idI := by
    rcases own.2 with ⟨hv, _⟩ | ⟨g', cap', cur, hv, _, hblk, _, _, hcs, ht⟩
    · cases hv
    · injection hv with h1 h2 h3
      injection h1 with h1
      injection h1 with h1
      subst h1 h3
      exact ⟨cur, hblk, hcs, by rw [Nat.mul_one] at ht; exact ht⟩
  have eg : ∀ args w, (callFunc 32 args).run Try.prog w = .ok (.enter 32 args) w := enters_of Try.func32 (by kernel_rfl) rfl
  have hp : PredAt Try.prog 32 #[.pointer (some ⟨B, 0, none⟩)] idI (fun y => y == x) w := fun W y hb => era1_any y x B W ((hb.cell (p := ⟨B, 0, none⟩) hB.lt).trans (hB.cell 0))
  have hpo : PredOver Try.prog 32 #[.pointer (some ⟨B, 0, none⟩)] idI (fun y => y == x) b 0 ids.toArray.size w := fun n os dk y _ => era1_any y x B _ (by
    exact (World.cell?_of_block (a := ⟨B, 0, none⟩) (sort_blk9 idI hB.lt hne)).trans (hB.cell 0))
  have hcon := AnyE.slices_DeleteFunc Try.del9 idI (fun _ => rfl) (fun y => y == x) 32 #[.pointer (some ⟨B, 0, none⟩)] eg 0 Try.zeroValue2 b 0 cap ids.toArray w hp hpo (holds_put9 idI hcur htk) (by simp; omega) (by simpa using q1)
  change Calls Try.prog 31 _ _ _ at hcon
  simp only [List.size_toArray] at hcon
  refine hcon.mono ?_
  rintro e w' ⟨rfl, q, rfl⟩
  have hfl : (ids.filter (fun y => !(y == x))).length ≤ ids.length := List.length_filter_le _ _
  refine ⟨rfl, own_put9 idI q3 hcur (by simp; omega) (by unfold maxLen; omega) hsz, grown_put9 idI w b q _⟩
abbrev ChO (Cs : List Chn) := Option {c : Chn // c ∈ Cs}
def encC9 (Cs : List Chn) : ChO Cs → Value
  | none => .pointer none
  | some c => chnP c.1
def isC9 (Cs : List Chn) (b0 : Nat) : ChO Cs → Bool
  | none => false
  | some c => c.1.b == b0
theorem eql_none9 (W : World) (a : Addr) : (binOp .eql 62 (.pointer none) (.pointer (some a))).run Try.prog W = .ok (.bool false) W := by
  have h : ∀ d : Nat, (Op.equalIn (d + 1) 62 (.pointer none) (.pointer (some a))).run Try.prog W = .ok false W := fun d => by
    simp [Op.equalIn, run_underlying Try.underlying62]
  simp only [binOp]
  simp [Op.equal, Op.maxDepth, h 9999]
theorem info_chn : (Try.prog.info? 66).map (·.size) = some 6 ∨ ∃ j, Try.prog.info? 66 = some j ∧ j.size ≠ 0 := by
  right
  have h : (Try.prog.info? 66).any (fun j => j.size != 0) = true := by kernel_rfl
  cases hj : Try.prog.info? 66 with
  | none => rw [hj] at h; cases h
  | some j => rw [hj] at h; exact ⟨j, rfl, by simpa using h⟩
/-- the test of Erase's second closure -/
theorem era2_any (Cs : List Chn) (b0 : Nat) (y : ChO Cs) (B : Nat) (W : World) (hc : W.cell? ⟨B, 0, none⟩ = some (.pointer (some ⟨b0, 0, none⟩))) (hb : ∀ c ∈ Cs, ∃ cs, Blk W c.b cs 66) (h0 : ∃ cs, Blk W b0 cs 66) :
    FnGives Try.prog 34 #[.pointer (some ⟨B, 0, none⟩)] #[encC9 Cs y] (.bool (isC9 Cs b0 y)) W := by
  have heq : (binOp .eql 62 (encC9 Cs y) (.pointer (some ⟨b0, 0, none⟩))).run Try.prog W = .ok (.bool (isC9 Cs b0 y)) W := by
    obtain ⟨j, hj, hjs⟩ : ∃ j, Try.prog.info? 66 = some j ∧ j.size ≠ 0 := by
      rcases info_chn with h | h
      · cases hj : Try.prog.info? 66 with
        | none => rw [hj] at h; cases h
        | some j => rw [hj] at h; exact ⟨j, rfl, by simp at h; omega⟩
      · exact h
    cases y with
    | none => exact eql_none9 W _
    | some c =>
      by_cases e : c.1.b = b0
      · have e2 : isC9 Cs b0 (some c) = true := by simp [isC9, e]
        rw [e2]
        show (binOp .eql 62 (.pointer (some ⟨c.1.b, 0, none⟩)) (.pointer (some ⟨b0, 0, none⟩))).run Try.prog W = _
        rw [e]
        exact run_eql_ptr_same W _ Try.underlying62 hj
      · have e2 : isC9 Cs b0 (some c) = false := by simp [isC9, e]
        rw [e2]
        obtain ⟨ca, hca⟩ := hb c.1 c.2
        obtain ⟨cb, hcb⟩ := h0
        exact run_eql_ptr_other W (a := ⟨c.1.b, 0, none⟩) (b := ⟨b0, 0, none⟩) Try.underlying62 hj hjs (fun h => e (by injection h)) hca hcb
  have hne : (encC9 Cs y).cells = #[encC9 Cs y] := by cases y <;> rfl
  have hgd : ∀ x z b, eqGuard .eql 62 x z (encC9 Cs y) b = pure () := fun x z b => by cases y <;> rfl
  generalize encC9 Cs y = v at *
  generalize isC9 Cs b0 y = r at *
  clear hb h0
  show Calls Try.prog 34 #[v, .pointer (some ⟨B, 0, none⟩)] W _
  go_enter Try.func34, Try.ntmps34
  go_wp2
  all_goals (go_ret; exact ⟨rfl, 0, rfl⟩)
theorem filter_attach9 (Cs : List Chn) (b0 : Nat) : ((Cs.attach.map (some : {c : Chn // c ∈ Cs} → ChO Cs)).filter (fun y => !isC9 Cs b0 y)).map (encC9 Cs) = (Cs.filter (fun c => !(c.b == b0))).map chnP := by
  rw [List.filter_map, List.map_map]
  have h : Cs.filter (fun c => !(c.b == b0)) = (Cs.attach.filter (fun c => !(c.1.b == b0))).map Subtype.val := by
    conv => lhs; rw [← List.attach_map_subtype_val Cs]
    rw [List.filter_map]
    rfl
  rw [h, List.map_map]
  rfl
theorem del_chns (Cs : List Chn) (b cap B b0 : Nat) (w : World) (hl : Cs.length ≤ 1000000) (own : w.ownsRow 0 62 1 (.slice (some ⟨b, 0, none⟩) Cs.length cap) Cs.length (Cs.map chnP)) (hB : Blk w B #[.pointer (some ⟨b0, 0, none⟩)] 62) (hne : B ≠ b)
    (hb : ∀ c ∈ Cs, ∃ cs, Blk w c.b cs 66) (h0 : ∃ cs, Blk w b0 cs 66) (hbn : ∀ k cs, Blk w k cs 66 → k ≠ b) :
    Calls Try.prog 33 #[.slice (some ⟨b, 0, none⟩) Cs.length cap, .func (.func 34) #[] #[.pointer (some ⟨B, 0, none⟩)]] w fun e w' => e = .returned (.slice (some ⟨b, 0, none⟩) (Cs.filter (fun c => !(c.b == b0))).length cap) ∧
      w'.ownsRow 0 62 1 (.slice (some ⟨b, 0, none⟩) (Cs.filter (fun c => !(c.b == b0))).length cap) (Cs.filter (fun c => !(c.b == b0))).length ((Cs.filter (fun c => !(c.b == b0))).map chnP) ∧ w.grownBy w' (some b) := by
  obtain ⟨q1, q2, q3, q4, _, _⟩ := own_at own
  obtain ⟨cur, hcur, hsz, htk⟩ : ∃ cur, w.heap[b]? = some (.cells cur 62 (0, 0)) ∧ cur.size = cap * 1 ∧ cur.toList.take Cs.length = Cs.map chnP := by
    rcases own.2 with ⟨hv, _⟩ | ⟨g', cap', cur, hv, _, hblk, _, _, hcs, ht⟩
    · cases hv
    · injection hv with h1 h2 h3
      injection h1 with h1
      injection h1 with h1
      subst h1 h3
      exact ⟨cur, hblk, hcs, by rw [Nat.mul_one] at ht; exact ht⟩
  have eg : ∀ args w, (callFunc 34 args).run Try.prog w = .ok (.enter 34 args) w := enters_of Try.func34 (by kernel_rfl) rfl
  let D : List (ChO Cs) := Cs.attach.map some
  have hDl : D.length = Cs.length := by simp [D]
  have hDe : D.map (encC9 Cs) = Cs.map chnP := by
    simp only [D, List.map_map]
    conv => rhs; rw [← List.attach_map_subtype_val Cs, List.map_map]
    rfl
  have hp : PredAt Try.prog 34 #[.pointer (some ⟨B, 0, none⟩)] (encC9 Cs) (isC9 Cs b0) w := fun W y hW => era2_any Cs b0 y B W ((hW.cell (p := ⟨B, 0, none⟩) hB.lt).trans (hB.cell 0))
    (fun c hc => by obtain ⟨cs, h⟩ := hb c hc; exact ⟨cs, (hW.block _ h.lt).trans h⟩) (by obtain ⟨cs, h⟩ := h0; exact ⟨cs, (hW.block _ h.lt).trans h⟩)
  have hpo : PredOver Try.prog 34 #[.pointer (some ⟨B, 0, none⟩)] (encC9 Cs) (isC9 Cs b0) b 0 D.toArray.size w := fun n os dk y _ => era2_any Cs b0 y B _ ((World.cell?_of_block (a := ⟨B, 0, none⟩) (sort_blk9 (encC9 Cs) hB.lt hne)).trans (hB.cell 0))
    (fun c hc => by obtain ⟨cs, h⟩ := hb c hc; exact ⟨cs, (sort_blk9 (encC9 Cs) h.lt (hbn _ _ h)).trans h⟩) (by obtain ⟨cs, h⟩ := h0; exact ⟨cs, (sort_blk9 (encC9 Cs) h.lt (hbn _ _ h)).trans h⟩)
  have hcon := AnyE.slices_DeleteFunc Try.delC9 (encC9 Cs) (fun y => by cases y <;> rfl) (isC9 Cs b0) 34 #[.pointer (some ⟨B, 0, none⟩)] eg none Try.zeroValue62 b 0 cap D.toArray w hp hpo (holds_put9 (encC9 Cs) (ss := D) hcur (by rw [hDl, hDe]; exact htk)) (by simp [D]; omega) (by simpa [D] using q1)
  change Calls Try.prog 33 _ _ _ at hcon
  have hfe := filter_attach9 Cs b0
  have hfl0 : (D.filter (fun y => !isC9 Cs b0 y)).length = (Cs.filter (fun c => !(c.b == b0))).length := by
    have := congrArg List.length hfe
    simpa using this
  have hfl : (Cs.filter (fun c => !(c.b == b0))).length ≤ Cs.length := List.length_filter_le _ _
  simp only [List.size_toArray, hDl] at hcon
  refine hcon.mono ?_
  rintro e w' ⟨rfl, q, rfl⟩
  have o := own_put9 (encC9 Cs) (ts := D.filter (fun y => !isC9 Cs b0 y)) (zs := List.replicate (Cs.length - (D.filter (fun y => !isC9 Cs b0 y)).length) none) (q := q) (base := 0) (Nat.zero_le _) hcur (by simp only [List.length_replicate]; rw [hfl0]; omega) (by unfold maxLen; omega) hsz
  rw [hfe, hfl0] at o
  refine ⟨by rw [← hfl0], ?_, grown_put9 (encC9 Cs) w b q _⟩
  rw [hfl0]
  exact o
end Go.Proofs.Ytijegkiapbmekaa
