/- Package hashidx: Has, Find; Insert and Erase where nothing changes. -/
import Derived.Test.YtijegkiapbmekaaHins
import Derived.Deep.Cut
set_option maxRecDepth 100000
set_option linter.unusedVariables false
set_option linter.unusedSimpArgs false
namespace Go.Proofs.Ytijegkiapbmekaa
open Go.RowKit
open Go.Maps (has size Keyed int_keyed keyOf_int_mk)
attribute [local go_sem] run_frombits run_tobits more_more more_drew more_drewN more_size more_cell more_frozen run_store_float lt_c1 le_c1 lt_s1 le_s1 lt_c2 le_c2 lt_s2 le_s2 lt_c3 le_c3 lt_s3 le_s3 lt_c4 le_c4 lt_s4 le_s4 lt_c5 le_c5 lt_s5 le_s5 lt_c6 le_c6 lt_s6 le_s6 lt_c7 le_c7 lt_s7 le_s7 lt_c8 le_c8 lt_s8 le_s8 lt_c9 le_c9 lt_s9 le_s9 lt_c10 le_c10 lt_s10 le_s10 lt_c11 le_c11 lt_s11 le_s11 lt_c12 le_c12 lt_s12 le_s12 le_c0
theorem rowC_int (l : List Int) : rowC intC l = l.map idI := by unfold rowC; induction l with | nil => rfl | cons a l ih => simp [intC, ih]
set_option maxHeartbeats 1000000 in
theorem clone_ids (A : Option Addr) (ca : Nat) (l : List Int) (w : World) (la : l.length ≤ 1000) (hA : A = none → ca = 0 ∧ l.length = 0) (ha : RowIn intC 1 w A l) :
    Calls Try.prog 30 #[.slice A l.length ca] w fun e w' => ∃ v, e = .returned v ∧ w'.ownsRow w.heap.size 2 1 v l.length (l.map idI) ∧ Below w.heap.size w w' := by
  obtain ⟨i0, hi, hz0, hz1, hz2⟩ := info_parts info_i64
  have qT : ∀ (w : World) (a : Option Addr) (n c n' c' : Nat), (binOp .eql 34 (.slice a n c) (.slice none n' c')).run Try.prog w = .ok (.bool a.isNone) w := fun w a n c n' c' => Lib.run_eql_slice_nil w _ _ a n c n' c' Try.underlying34
  cases A with
  | none =>
    obtain ⟨rfl, h0⟩ := hA rfl
    have : l = [] := List.eq_nil_of_length_eq_zero h0
    subst this
    go_enter Try.func30, Try.ntmps30
    go_wp2
    go_ret
    exact ⟨_, rfl, World.ownsRow_nil _ _ _ _, Below.refl _ _⟩
  | some a =>
    have HN := Lib.hid (show ∀ j u, (l.map idI)[j]? = some u → w.cell? (a.add j) = some u from by
      rw [← rowC_int]; exact rowIn_news (c := intC) (s := 1) (fun _ => rfl) (by decide) ha a rfl)
    clear ha hA
    go_enter Try.func30, Try.ntmps30
    go_wp2_with (first | (at_builtin; refine wpList_append_own_at _ rfl _ _ 34 rfl w.heap.size 2 i0 _ 1 8 Try.underlying34 hi hz0 hz1 hz2 rfl (by decide) (.slice (some ⟨w.heap.size, 0, none⟩) 0 0) 0 [] rfl (World.ownsRow_made w #[] 0 (Nat.le_refl _) (by unfold maxLen; omega) rfl) a l.length ca (l.map idI) rfl (by simp) (cells_kept5 HN.out) (fun u hu => by obtain ⟨x, _, rfl⟩ := List.mem_map.1 hu; rfl) (by unfold maxLen; omega) (by omega) (by simp) ?_; intro v1 w1 own1 grow1 _ _) | fail)
    go_ret
    simp only [Nat.zero_add, List.nil_append] at own1
    exact ⟨_, rfl, own1, ((Below.refl _ _).alloc (Nat.le_refl _) _).grown grow1 (by simp) (by simp [Value.ownBlock])⟩
section
variable {w w' : World} {F Y : Nat → Prop} {p M : Nat} {D : DataW Value} {u : Bool} {n : Int} {C : List Chn} {key : List Val}
theorem ChM.row {c : Chn} (h : ChM w F c) : RowIn intC 1 w c.iA c.ids ∧ c.ids.length ≤ c.ic ∧ c.ic ≤ 9223372036854775807 := by
  have h1 : w.ownsRow 0 2 1 (idsS c) c.ids.length (rowC intC c.ids) := by
    rw [rowC_int]; exact h.ids
  obtain ⟨A, cp, e, q1, q2, _, q3⟩ := rowIn_own (c := intC) (s := 1) (fun _ => rfl) rfl h1
  injection e with e1 e2 e3
  subst e1 e3
  exact ⟨q3, q1, q2⟩
set_option maxHeartbeats 1000000 in
theorem has_yes (h : HM w F p M D u n C) (A : Option Addr) (ca : Nat) (hok : allOk key) (lk : key.length ≤ 1000) (ha : ValsIn w A key) {c : Chn} (hc : c ∈ C) (hk : c.key = key) (hl : c.ids.length ≤ 1000) (id : Int) :
    Gives Try.prog 15 #[.pointer (some ⟨p, 0, none⟩), .slice A key.length ca, .int .i64 id] w (.bool (decide (id ∈ c.ids))) := by
  have FD := Lib.hid (find_any h A ca hok lk ha)
  rw [fnd_yes h hc hk] at FD
  have hC := h.each c hc
  have c1 : ∀ x, (more w x).cell? ⟨c.b, 1, none⟩ = some (idsS c) := fun x => (more_cell w x _ hC.box.lt).trans (hC.box.cell 1)
  have CT := Lib.hid (fun x => contains_any c.iA c.ic c.ids id (more w x) (by omega) (hC.row.1.more x))
  clear h hC ha hok
  go_enter Try.func15, Try.ntmps15
  go_wp2_with fail
  refine FD.out.mono' ?_; intro x
  go_wp2_with fail
  refine (CT.out x).mono ?_; rintro e w' ⟨rfl, rfl⟩
  go_wp2
  go_ret
  exact ⟨rfl, (more_of_below (by repeat (first | (with_reducible exact Below.refl _ _) | (with_reducible refine Below.drew ?_) | (with_reducible refine Below.alloc ?_ (by simp [more_size]; try omega) _) | (with_reducible refine Below.setCell ?_ (by simp [more_size]; try omega) _) | (with_reducible refine below_more ?_ _ (by simp [more_size]; try omega)))))⟩
set_option maxHeartbeats 1000000 in
theorem has_no (h : HM w F p M D u n C) (A : Option Addr) (ca : Nat) (hok : allOk key) (lk : key.length ≤ 1000) (ha : ValsIn w A key) (hno : ∀ c ∈ C, c.key ≠ key) (id : Int) :
    Gives Try.prog 15 #[.pointer (some ⟨p, 0, none⟩), .slice A key.length ca, .int .i64 id] w (.bool false) := by
  have FD := Lib.hid (find_any h A ca hok lk ha)
  rw [fnd_no h hok hno] at FD
  clear h ha hok hno
  go_enter Try.func15, Try.ntmps15
  go_wp2_with fail
  refine FD.out.mono' ?_; intro x
  go_wp2
  go_ret
  exact ⟨rfl, (more_of_below (by repeat (first | (with_reducible exact Below.refl _ _) | (with_reducible refine Below.drew ?_) | (with_reducible refine Below.alloc ?_ (by simp [more_size]; try omega) _) | (with_reducible refine Below.setCell ?_ (by simp [more_size]; try omega) _) | (with_reducible refine below_more ?_ _ (by simp [more_size]; try omega)))))⟩
set_option maxHeartbeats 1000000 in
theorem hins_there (h : HM w F p M D u n C) (A : Option Addr) (ca : Nat) (hok : allOk key) (lk : key.length ≤ 1000) (ha : ValsIn w A key) {c : Chn} (hc : c ∈ C) (hk : c.key = key) (hl : c.ids.length ≤ 1000) (id : Int) (hid : id ∈ c.ids) :
    Gives Try.prog 9 #[.pointer (some ⟨p, 0, none⟩), .slice A key.length ca, .int .i64 id] w (.int .i64 72) := by
  have FD := Lib.hid (find_any h A ca hok lk ha)
  rw [fnd_yes h hc hk] at FD
  have hC := h.each c hc
  have c1 : ∀ x, (more w x).cell? ⟨c.b, 1, none⟩ = some (idsS c) := fun x => (more_cell w x _ hC.box.lt).trans (hC.box.cell 1)
  have CT := Lib.hid (fun x => contains_any c.iA c.ic c.ids id (more w x) (by omega) (hC.row.1.more x))
  rw [decide_eq_true hid] at CT
  clear h hC ha hok hid
  go_enter Try.func9, Try.ntmps9
  go_wp2_with fail
  refine FD.out.mono' ?_; intro x
  go_wp2_with fail
  refine (CT.out x).mono ?_; rintro e w' ⟨rfl, rfl⟩
  go_wp2
  go_ret
  exact ⟨rfl, (more_of_below (by repeat (first | (with_reducible exact Below.refl _ _) | (with_reducible refine Below.drew ?_) | (with_reducible refine Below.alloc ?_ (by simp [more_size]; try omega) _) | (with_reducible refine Below.setCell ?_ (by simp [more_size]; try omega) _) | (with_reducible refine below_more ?_ _ (by simp [more_size]; try omega)))))⟩
set_option maxHeartbeats 1000000 in
theorem hins_dup (h : HM w F p M D true n C) (A : Option Addr) (ca : Nat) (hok : allOk key) (lk : key.length ≤ 1000) (ha : ValsIn w A key) {c : Chn} (hc : c ∈ C) (hk : c.key = key) (hl : c.ids.length ≤ 1000) (id : Int) (hid : id ∉ c.ids) :
    Gives Try.prog 9 #[.pointer (some ⟨p, 0, none⟩), .slice A key.length ca, .int .i64 id] w (.int .i64 80) := by
  have FD := Lib.hid (find_any h A ca hok lk ha)
  rw [fnd_yes h hc hk] at FD
  have hC := h.each c hc
  have c1 : ∀ x, (more w x).cell? ⟨c.b, 1, none⟩ = some (idsS c) := fun x => (more_cell w x _ hC.box.lt).trans (hC.box.cell 1)
  have c2 : ∀ x, (more w x).cell? ⟨p, 0, none⟩ = some (.bool true) := fun x => (more_cell w x _ h.box.lt).trans (h.box.cell 0)
  have CT := Lib.hid (fun x => contains_any c.iA c.ic c.ids id (more w x) (by omega) (hC.row.1.more x))
  rw [decide_eq_false hid] at CT
  clear h hC ha hok hid
  go_enter Try.func9, Try.ntmps9
  go_wp2_with fail
  refine FD.out.mono' ?_; intro x
  go_wp2_with fail
  refine (CT.out x).mono ?_; rintro e w' ⟨rfl, rfl⟩
  go_wp2
  go_ret
  exact ⟨rfl, (more_of_below (by repeat (first | (with_reducible exact Below.refl _ _) | (with_reducible refine Below.drew ?_) | (with_reducible refine Below.alloc ?_ (by simp [more_size]; try omega) _) | (with_reducible refine Below.setCell ?_ (by simp [more_size]; try omega) _) | (with_reducible refine below_more ?_ _ (by simp [more_size]; try omega)))))⟩
set_option maxHeartbeats 1000000 in
theorem hera_no (h : HM w F p M D u n C) (A : Option Addr) (ca : Nat) (hok : allOk key) (lk : key.length ≤ 1000) (ha : ValsIn w A key) {c : Chn} (hc : c ∈ C) (hk : c.key = key) (hl : c.ids.length ≤ 1000) (id : Int) (hid : id ∉ c.ids) :
    Calls Try.prog 18 #[.pointer (some ⟨p, 0, none⟩), .slice A key.length ca, .int .i64 id] w fun e w' => e = .returned (.int .i64 71) ∧ Below w.heap.size w w' := by
  have FD := Lib.hid (fun W (hB : Below w.heap.size w W) => find_any (h.below hB) A ca hok lk (ha.below hB))
  have fe := fnd_yes h hc hk
  rw [fe] at FD
  have hC := h.each c hc
  have hbl := hC.box.lt
  have cc := Lib.hid (fun W (hB : Below w.heap.size w W) => ((hB.cell (p := ⟨c.b, 1, none⟩) hC.box.lt).trans (hC.box.cell 1) : W.cell? ⟨c.b, 1, none⟩ = some (idsS c)))
  have CT := Lib.hid (fun W (hB : Below w.heap.size w W) => contains_any c.iA c.ic c.ids id W (by omega) (hC.row.1.below hB))
  rw [decide_eq_false hid] at CT
  clear h hC ha hok hid
  go_enter Try.func18, Try.ntmps18
  go_wp2_with fail
  refine calls_at (R := fun W => Below w.heap.size w W ∧ Blk W w.heap.size #[.int .i64 id] 2) ⟨(by repeat (first | (with_reducible exact Below.refl _ _) | (with_reducible refine Below.drew ?_) | (with_reducible refine Below.alloc ?_ (by simp [more_size]; try omega) _) | (with_reducible refine Below.setCell ?_ (by simp [more_size]; try omega) _) | (with_reducible refine below_more ?_ _ (by simp [more_size]; try omega)))), Blk.new _ _ _ rfl⟩ ?_
  rintro W ⟨hB, hib⟩
  refine (FD.out W hB).mono' ?_; intro x
  have hB2 := hB.trans ((more_below W x).mono hB.size)
  have c1 := cc.out _ hB2
  have hib2 := hib.more x
  have hcb : c.b < (more W x).heap.size := Nat.lt_of_lt_of_le hbl hB2.size
  have CT2 := Lib.hid (fun V (hV : Below (more W x).heap.size (more W x) V) => CT.out V (hB2.trans (hV.mono hB2.size)))
  replace hB2 := Lib.hid hB2
  clear hB hib
  generalize more W x = W2 at *
  clear FD CT cc
  go_upto_region 2 with fail
  obtain ⟨bq, hbq⟩ : ∃ bq, bq = W2.heap.size := ⟨_, rfl⟩
  refine wp_named9 (R := fun V => Blk V bq #[chnP c] 62 ∧ V.cell? ⟨c.b, 1, none⟩ = some (idsS c) ∧ Blk V w.heap.size #[.int .i64 id] 2 ∧ Below W2.heap.size W2 V) ⟨Blk.new _ _ _ hbq, ?_, hib2.alloc _, (by repeat (first | (with_reducible exact Below.refl _ _) | (with_reducible refine Below.drew ?_) | (with_reducible refine Below.alloc ?_ (by simp [more_size]; try omega) _) | (with_reducible refine Below.setCell ?_ (by simp [more_size]; try omega) _) | (with_reducible refine below_more ?_ _ (by simp [more_size]; try omega))))⟩ ?_
  · exact ((show Below W2.heap.size W2 (W2.alloc (.cells #[chnP c] 62)) from (by repeat (first | (with_reducible exact Below.refl _ _) | (with_reducible refine Below.drew ?_) | (with_reducible refine Below.alloc ?_ (by simp [more_size]; try omega) _) | (with_reducible refine Below.setCell ?_ (by simp [more_size]; try omega) _) | (with_reducible refine below_more ?_ _ (by simp [more_size]; try omega))))).cell (p := ⟨c.b, 1, none⟩) hcb).trans c1
  rintro V ⟨hbV, c2, hib3, hV⟩
  have c3 : V.cell? ⟨bq, 0, none⟩ = some (chnP c) := hbV.cell 0
  have c4 : V.cell? ⟨w.heap.size, 0, none⟩ = some (.int .i64 id) := hib3.cell 0
  have l3 := hbV.lt
  have l4 := hib3.lt
  have l2 : c.b < V.heap.size := Nat.lt_of_lt_of_le hcb hV.size
  rw [← hbq]
  have CT3 := Lib.hid (fun y => gives_of_same (CT2.out (more V y) (hV.trans ((more_below V y).mono hV.size))))
  have hB3 := Lib.hid (fun y => hB2.out.trans ((hV.trans ((more_below V y).mono hV.size)).mono hB2.out.size))
  clear hV CT2 c1 hbV hbq hib3 hib2 hcb
  refine wp_region_more (by kernel_rfl) (by kernel_rfl) ?_
  repeat (go_big_quiet_step (((with_reducible exact (CT3.out _).at_))))
  refine wpQuiet_nil ?_
  rintro _ ⟨z, rfl⟩
  go_wp2
  go_ret
  exact ⟨rfl, hB3.out z⟩
set_option maxHeartbeats 1000000 in
/-- Find: a copy of a chain's rows -/
theorem hfind_yes (h : HM w F p M D u n C) (A : Option Addr) (ca : Nat) (hok : allOk key) (lk : key.length ≤ 1000) (ha : ValsIn w A key) {c : Chn} (hc : c ∈ C) (hk : c.key = key) (hl : c.ids.length ≤ 1000) :
    Calls Try.prog 11 #[.pointer (some ⟨p, 0, none⟩), .slice A key.length ca] w fun e w' => ∃ v, e = .returned v ∧ w'.ownsRow w.heap.size 2 1 v c.ids.length (c.ids.map idI) ∧ Below w.heap.size w w' := by
  have FD := Lib.hid (find_any h A ca hok lk ha)
  rw [fnd_yes h hc hk] at FD
  have hC := h.each c hc
  have c1 : ∀ x, (more w x).cell? ⟨c.b, 1, none⟩ = some (idsS c) := fun x => (more_cell w x _ hC.box.lt).trans (hC.box.cell 1)
  have CL := Lib.hid (fun x => clone_ids c.iA c.ic c.ids (more w x) hl (own_nil9 hC.ids) (hC.row.1.more x))
  clear h hC ha hok
  go_enter Try.func11, Try.ntmps11
  go_wp2_with fail
  refine FD.out.mono' ?_; intro x
  go_wp2_with fail
  refine (CL.out x).mono ?_; rintro e w' ⟨v, rfl, own, hB⟩
  have hb := Lib.hid ((more_below w x).trans (hB.mono (more_below w x).size))
  have ho := Lib.hid (own_lower own (more_below w x).size)
  clear own hB
  go_wp2
  go_ret
  exact ⟨_, rfl, ho.out, hb.out⟩
end
end Go.Proofs.Ytijegkiapbmekaa
