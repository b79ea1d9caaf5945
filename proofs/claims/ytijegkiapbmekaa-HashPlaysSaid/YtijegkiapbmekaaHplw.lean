/- HashPlays: the walk. -/
import Derived.Test.YtijegkiapbmekaaHplm
import Derived.Test.YtijegkiapbmekaaOpen
import Derived.Deep.LoopGhost
import Derived.Deep.CutRange
import Derived.Deep.CutBlock
import Derived.Deep.RegionHeld3
set_option maxRecDepth 100000
set_option linter.unusedVariables false
set_option linter.unusedSimpArgs false
namespace Go.Proofs.Ytijegkiapbmekaa
open Go.RowKit
attribute [local go_sem] run_frombits run_tobits more_more more_drew more_drewN more_size more_cell more_frozen run_store_float lt_c1 le_c1 lt_s1 le_s1 lt_c2 le_c2 lt_s2 le_s2 lt_c3 le_c3 lt_s3 le_s3 lt_c4 le_c4 lt_s4 le_s4 lt_c5 le_c5 lt_s5 le_s5 lt_c6 le_c6 lt_s6 le_s6 lt_c7 le_c7 lt_s7 le_s7 lt_c8 le_c8 lt_s8 le_s8 lt_c9 le_c9 lt_s9 le_s9 lt_c10 le_c10 lt_s10 le_s10 lt_c11 le_c11 lt_s11 le_s11 lt_c12 le_c12 lt_s12 le_s12 le_c0
/-- an index, and the statement's own row of what it holds -/
structure MSt (w W : World) (p : Nat) (u : Bool) (i : Nat) (X : Nat → Prop) (mA : Option Addr) (mc : Nat) (Q : List Ent) : Prop where
  st : StI w W p u Q.length i (fun g => X g ∨ (Value.slice mA Q.length mc).ownBlock = some g) (Q.map entP)
  own : W.ownsRow w.heap.size 56 2 (.slice mA Q.length mc) Q.length (rowC entC Q)
  keys : keysE w Q
  srt : SortE (Q.map entP)
  le : Q.length ≤ i
section
variable {w W W' : World} {p : Nat} {u : Bool} {i : Nat} {X X' : Nat → Prop} {mA : Option Addr} {mc : Nat} {Q : List Ent}
theorem MSt.onto (h : MSt w W p u i X mA mc Q) (hb : Below W.heap.size W W') (hX : ∀ g, X' g → g < W'.heap.size ∧ (X g ∨ W.heap.size ≤ g)) : MSt w W' p u i X' mA mc Q :=
  ⟨h.st.onto hb (fun g hg => hg.elim (fun q => ⟨(hX g q).1, (hX g q).2.imp .inl id⟩) (fun q => ⟨Nat.lt_of_lt_of_le (own_lt9 h.own g q) hb.size, .inl (.inr q)⟩)),
   own_same h.own (fun g hg => hb.block g (own_lt9 h.own g hg)), h.keys, h.srt, h.le⟩
theorem MSt.bel (h : MSt w W p u i X mA mc Q) : Below w.heap.size w W := h.st.bel
theorem MSt.ok (h : MSt w W p u i X mA mc Q) : okE (Q.map entP) := fun e he => by
  obtain ⟨q, hq, rfl⟩ := List.mem_map.1 he
  exact (h.keys q hq).2.1
theorem MSt.row (h : MSt w W p u i X mA mc Q) : RowIn entC 2 W mA Q := by
  obtain ⟨A9, c9, e9, _, _, _, q9⟩ := rowIn_own (c := entC) (s := 2) entC_len rfl h.own
  injection e9 with e9
  subst e9
  exact q9
theorem MSt.find (h : MSt w W p u i X mA mc Q) (hi : i ≤ 100) (kA : Option Addr) (kc : Nat) (key : List Val) (id : Int) (hv : ValsIn w kA key) (hok : allOk key) (lk : key.length ≤ 1000) :
    Calls Try.prog 21 #[.slice mA Q.length mc, .slice kA key.length kc, .int .i64 id] W fun e w' => ∃ (vA : Option Addr) (vc : Nat) (at_ : Int), e = .returned (.tuple #[.slice vA (idsOf (Q.map entP) key).length vc, .int .i64 at_]) ∧ Hid (RowIn intC 1 w' vA (idsOf (Q.map entP) key) ∧ AtP (Q.map entP) key id (Q.map entP).length at_ ∧ Below W.heap.size W w') := by
  refine (find10_any mA mc Q kA kc key id W (by have := h.le; omega) h.row (h.keys.below h.bel) (hv.below h.bel) hok lk).mono ?_
  rintro e w' ⟨vA, vc, a, rfl, hX⟩
  obtain ⟨q1, q2, q3⟩ := hX.out
  have e1 : w'.ownsRow W.heap.size 2 1 (.slice vA (idsOf (Q.map entP) key).length vc) (idsOf (Q.map entP) key).length (rowC intC (idsOf (Q.map entP) key)) := by rw [rowC_int]; exact q1
  obtain ⟨A9, c9, e9, _, _, _, q9⟩ := rowIn_own (c := intC) (s := 1) (fun _ => rfl) rfl e1
  injection e9 with e9
  subst e9
  exact ⟨vA, vc, a, rfl, Lib.hid ⟨q9, by rw [List.length_map]; exact q2, q3⟩⟩
end
set_option maxHeartbeats 4000000 in
theorem walk_HashPlays (u : Bool) (A : Option Addr) (ca : Nat) (l : List Stp) (w : World) (la : l.length ≤ 9223372036854775807) (ho : ∀ s ∈ l, Stp.ok w s) (ha : RowIn stpC 3 w A l) :
    Gives Try.prog 6 #[.bool u, .slice A l.length ca] w (.bool true) := by
  rcases Nat.lt_or_ge 80 l.length with h80 | h80
  · have h1 : (80 : Int) < (l.length : Int) := by omega
    clear ho ha
    go_enter Try.func6, Try.ntmps6
    go_wp2_with fail
    refine (known10 _).mono' ?_; intro x
    go_wp2
    go_ret
    exact ⟨rfl, (more_of_below (by repeat (first | (with_reducible exact Below.refl _ _) | (with_reducible refine Below.drew ?_) | (with_reducible refine Below.alloc ?_ (by simp [more_size]; try omega) _) | (with_reducible refine Below.setCell ?_ (by simp [more_size]; try omega) _) | (with_reducible refine below_more ?_ _ (by simp [more_size]; try omega)))))⟩
  have h1 : ((80 : Int) < (l.length : Int)) = False := eq_false (by omega)
  have HS := Lib.hid ha
  have HO := Lib.hid ho
  have h80' : Hid (l.length ≤ 80) := Lib.hid h80
  clear la ha ho
  go_enter Try.func6, Try.ntmps6
  go_wp2_with fail
  refine (known10 _).mono' ?_; intro x
  go_wp2_with fail
  refine (StI.new (W0 := w) (by repeat (first | (with_reducible exact Below.refl _ _) | (with_reducible refine Below.drew ?_) | (with_reducible refine Below.alloc ?_ (by simp [more_size]; try omega) _) | (with_reducible refine Below.setCell ?_ (by simp [more_size]; try omega) _) | (with_reducible refine below_more ?_ _ (by simp [more_size]; try omega)))) u).mono ?_
  rintro e w1 ⟨p, rfl, h0⟩
  have hI : Hid (MSt w w1 p u 0 (fun _ => False) none 0 []) := Lib.hid ⟨h0.out.onto (Below.refl _ _) (fun g hg => hg.elim (fun q => q.elim) (fun q => by simp [Value.ownBlock] at q)), World.ownsRow_nil _ _ _ _, (fun q hq => by cases hq), List.Pairwise.nil, Nat.le_refl _⟩
  clear h0 h1
  go_wp2_with fail
  go_loopg [6, 7] l.length (fun k s6 s7 W => ∃ (i : Nat) (mA : Option Addr) (mc : Nat) (Q : List Ent), k = l.length - i ∧ i ≤ l.length ∧ s7 = .int .i64 (i : Nat) ∧ s6 = .slice mA Q.length mc ∧ Hid (MSt w W p u i (fun _ => False) mA mc Q))
  case atStart => exact ⟨0, none, 0, [], by omega, by omega, rfl, rfl, hI⟩
  case round =>
    clear hI
    obtain ⟨i, mA, mc, Q, rfl, hi, rfl, rfl, hI⟩ := hrel
    have hbel := Lib.hid hI.out.bel
    by_cases h1 : i < l.length
    · have h1' : (i : Int) < (l.length : Int) := by omega
      obtain ⟨b, o, rfl, hb, hc⟩ := HS.out i h1
      have ho := HO.out l[i] (List.getElem_mem h1)
      have x0 : wr.cell? ⟨b, o + i * 3, none⟩ = some (.int .i64 l[i].what) := (hbel.out.cell hb).trans (by have := hc i h1 0 _ rfl; simpa using this)
      have x1 : wr.cell? ⟨b, o + i * 3 + 1, none⟩ = some (.slice l[i].A l[i].vals.length l[i].cap) := (hbel.out.cell hb).trans (hc i h1 1 _ rfl)
      have x2 : wr.cell? ⟨b, o + i * 3 + 2, none⟩ = some (.int .i64 l[i].id) := (hbel.out.cell hb).trans (hc i h1 2 _ rfl)
      clear hb hc
      generalize l[i] = s at *
      obtain ⟨what, kA, kc, key, id⟩ := s
      dsimp only at x0 x1 x2
      have hA1 : Hid (kA = none → kc = 0 ∧ key.length = 0) := Lib.hid (fun e => by have h1 := ho.nil e; have h2 := ho.len; dsimp only at h1 h2; omega)
      have hok := Lib.hid ho.ok
      have hva := Lib.hid ho.vals
      dsimp only at hok hva
      have lv : key.length ≤ 9223372036854775807 := by have h1 := ho.len; have h2 := ho.cap; dsimp only at h1 h2; omega
      have F2 := Lib.hid (fun W (hW : Below w.heap.size w W) => few_any kA kc key 6 W lv (hva.out.below hW))
      clear lv ho
      go_wp2_with fail
      refine calls_at (R := fun W => MSt w W p u i (fun g => g = wr.heap.size) mA mc Q ∧ Blk W wr.heap.size #[.int .i64 what, .slice kA key.length kc, .int .i64 id] 51) ⟨hI.out.onto (by repeat (first | (with_reducible exact Below.refl _ _) | (with_reducible refine Below.drew ?_) | (with_reducible refine Below.alloc ?_ (by simp [more_size]; try omega) _) | (with_reducible refine Below.setCell ?_ (by simp [more_size]; try omega) _) | (with_reducible refine below_more ?_ _ (by simp [more_size]; try omega)))) (fun k hk => ⟨by rw [hk]; simp, .inr (by rw [hk]; exact Nat.le_refl _)⟩), Blk.new _ _ _ rfl⟩ ?_
      rintro W1 ⟨M1, hbx⟩
      have hbw : Hid (w.heap.size ≤ wr.heap.size) := Lib.hid hbel.out.size
      generalize wr.heap.size = bx at *
      have hbl1 := Lib.hid M1.bel
      refine (F2.out W1 hbl1.out).mono ?_
      rintro e w' ⟨rfl, rfl⟩
      obtain ⟨r2, hr2⟩ : ∃ r, fewV key 6 = r := ⟨_, rfl⟩
      rw [hr2]
      cases r2 with
      | false =>
        clear hr2 M1 hbx
        go_wp2
        go_ret
        exact ⟨rfl, more_of_below hbl1.out⟩
      | true =>
        have h10 : key.length ≤ 6 := by
          unfold fewV at hr2
          simp at hr2
          omega
        have y1 := hbx.cell 1
        have y2 := hbx.cell 2
        have hi80 : i ≤ 80 := by have := h80'.out; omega
        have FN := Lib.hid (M1.find (by omega) kA kc key id hva.out hok.out (by omega))
        have hbxl := hbx.lt
        clear hr2 F2 x0 x1 x2
        replace M1 := Lib.hid M1
        replace hbx := Lib.hid hbx
        go_wp2_with fail
        refine FN.out.mono ?_
        rintro e W2 ⟨vA, vc, a, rfl, hX⟩
        have hM2 : Hid (MSt w W2 p u i (fun g => g = bx) mA mc Q) := Lib.hid (M1.out.onto hX.out.2.2 (fun g hg => ⟨by rw [hg]; exact Nat.lt_of_lt_of_le hbxl hX.out.2.2.size, .inl hg⟩))
        have hb2 := Lib.hid (hbx.out.below hX.out.2.2 hbxl)
        have AT := Lib.hid (hX.out.2.1.mem hM2.out.ok hok.out)
        have IDM := Lib.hid (fun j => idsOf_mem (i := j) hM2.out.ok hok.out)
        have y0 := hb2.out.cell 0
        have y1 := hb2.out.cell 1
        have y2 := hb2.out.cell 2
        clear FN hX M1 hbx hbl1 hI hbel
        obtain ⟨nI, hnI⟩ : ∃ n, n = (idsOf (Q.map entP) key).length := ⟨_, rfl⟩
        rw [← hnI]
        replace hnI := Lib.hid hnI
        go_upto_block 2 with fail
        go_cut [6] from 44 to 143 (fun s6 W => ∃ (mA' : Option Addr) (mc' : Nat) (Q' : List Ent), s6 = .slice mA' Q'.length mc' ∧ Hid (MSt w W p u (i + 1) (fun g => g = bx) mA' mc' Q' ∧ Blk W bx #[.int .i64 what, .slice kA key.length kc, .int .i64 id] 51))
        case first =>
          have hMI := Lib.hid (show MI w W2 p u Q.length i bx #[.int .i64 what, .slice kA key.length kc, .int .i64 id] mA mc Q (Q.map entP) from ⟨hM2.out.st, hM2.out.own, hbw.out, hb2.out⟩)
          have hKQ := Lib.hid hM2.out.keys
          have hSQ := Lib.hid hM2.out.srt
          have hLQ : Q.length ≤ i := hM2.out.le
          have okM := Lib.hid hM2.out.ok
          have FIN := Lib.hid (show ∀ W mA' mc' Q', MI w W p u Q'.length (i + 1) bx #[.int .i64 what, .slice kA key.length kc, .int .i64 id] mA' mc' Q' (Q'.map entP) → keysE w Q' → SortE (Q'.map entP) → Q'.length ≤ i + 1 → Hid (MSt w W p u (i + 1) (fun g => g = bx) mA' mc' Q' ∧ Blk W bx #[.int .i64 what, .slice kA key.length kc, .int .i64 id] 51) from fun W mA' mc' Q' h1 h2 h3 h4 => Lib.hid ⟨⟨h1.st, h1.own, h2, h3, h4⟩, h1.box⟩)
          have hLI : Q.length ≤ 80 := by omega
          clear hM2 hb2
          by_cases hw : what ≤ 3
          · have CPY := Lib.hid (copyA kA kc key W2.drew (by omega) hA1.out (hva.out.below (hMI.out.st.bel.trans ((show Below W2.heap.size W2 W2.drew from (by repeat (first | (with_reducible exact Below.refl _ _) | (with_reducible refine Below.drew ?_) | (with_reducible refine Below.alloc ?_ (by simp [more_size]; try omega) _) | (with_reducible refine Below.setCell ?_ (by simp [more_size]; try omega) _) | (with_reducible refine below_more ?_ _ (by simp [more_size]; try omega))))).mono hMI.out.st.bel.size))))
            have KB := Lib.hid (show ∀ W, Below W2.drew.heap.size W2.drew W → Hid (MI w W p u Q.length i bx #[.int .i64 what, .slice kA key.length kc, .int .i64 id] mA mc Q (Q.map entP)) from fun W hW => Lib.hid ((hMI.out.below (by repeat (first | (with_reducible exact Below.refl _ _) | (with_reducible refine Below.drew ?_) | (with_reducible refine Below.alloc ?_ (by simp [more_size]; try omega) _) | (with_reducible refine Below.setCell ?_ (by simp [more_size]; try omega) _) | (with_reducible refine below_more ?_ _ (by simp [more_size]; try omega))))).below hW))
            have CB := Lib.hid (show ∀ W, Below W2.drew.heap.size W2.drew W → W.cell? ⟨bx, 1, none⟩ = some (.slice kA key.length kc) ∧ W.cell? ⟨bx, 2, none⟩ = some (.int .i64 id) from fun W hW => by
              have := (KB.out W hW).out.box
              exact ⟨this.cell 1, this.cell 2⟩)
            have S0d : W2.drew.cell? ⟨bx, 1, none⟩ = some (.slice kA key.length kc) ∧ W2.drew.cell? ⟨bx, 2, none⟩ = some (.int .i64 id) := CB.out W2.drew (Below.refl _ _)
            rcases AT.out with ⟨rfl, hno⟩ | ⟨k, rfl, hk, hk2⟩
            · by_cases hdup : u = true ∧ 0 < nI
              · obtain ⟨rfl, hn0⟩ := hdup
                have hn0' : (0 : Int) < (nI : Int) := by omega
                have hex : Hid (∃ j, (key, j) ∈ Q.map entP) := Lib.hid (by
                  rw [hnI.out] at hn0
                  obtain ⟨j, hj⟩ := List.exists_mem_of_length_pos hn0
                  exact ⟨j, (IDM.out j).1 hj⟩)
                have hno' := Lib.hid hno
                have INS := Lib.hid (show ∀ W B cb, Below W2.drew.heap.size W2.drew W → (B = none → cb = 0 ∧ key.length = 0) → ValsIn W B key → Hid (Calls Try.prog 9 #[.pointer (some ⟨p, 0, none⟩), .slice B key.length cb, .int .i64 id] W fun e w' => e = .returned (.int .i64 80) ∧ Hid (MI w w' p true Q.length (i + 1) bx #[.int .i64 what, .slice kA key.length kc, .int .i64 id] mA mc Q (Q.map entP))) from fun W B cb hW hB hv => Lib.hid ((KB.out W hW).out.ins_old (by omega) (by omega) B cb hok.out (by omega) hB hv id 80 (.inr ⟨hno'.out, rfl, hex.out, rfl⟩)))
                have CB6 := Lib.hid (show ∀ W, Hid (MI w W p true Q.length (i + 1) bx #[.int .i64 what, .slice kA key.length kc, .int .i64 id] mA mc Q (Q.map entP)) → W.cell? ⟨bx, 1, none⟩ = some (.slice kA key.length kc) ∧ W.cell? ⟨bx, 2, none⟩ = some (.int .i64 id) from fun W h => ⟨h.out.box.cell 1, h.out.box.cell 2⟩)
                clear hno hn0
                go_upto_region 26 with fail
                go_region_held3 (fun W' => W'.cell? ⟨bx, 1, none⟩ = some (.slice kA key.length kc) ∧ W'.cell? ⟨bx, 2, none⟩ = some (.int .i64 id)) (first | assumption | exact S0d) ((first
                  | (go_at_call 13; with_reducible refine Calls.mono (CPY.out) ?_; rintro e W5 ⟨B, cb, rfl, n5, v5, hB5⟩; have C5 := CB.out W5 hB5; have I5 := INS.out W5 B cb hB5 n5 v5; clear n5 v5)
                  | (go_at_call 9; with_reducible refine Calls.mono (I5.out) ?_; rintro e W6 ⟨rfl, hM6⟩; have C6 := CB6.out W6 hM6)))
                all_goals
                  clear CPY KB CB INS CB6 C6 S0d
                  go_wp2
                  go_meet
                  exact ⟨mA, mc, Q, rfl, FIN.out _ _ _ _ hM6.out hKQ.out hSQ.out (by omega)⟩
              · have hdp : Hid (u = true → nI = 0) := Lib.hid (fun e => by
                  rcases Nat.eq_zero_or_pos nI with q | q
                  · exact q
                  · exact absurd ⟨e, q⟩ hdup)
                have hno' := Lib.hid hno
                have huj : Hid (u = true → ∀ j, (key, j) ∉ Q.map entP) := Lib.hid (fun e j hj => by
                  have h1 := hdp.out e
                  have h2 := (IDM.out j).2 hj
                  rw [hnI.out] at h1
                  rw [List.eq_nil_of_length_eq_zero h1] at h2
                  cases h2)
                clear hno hdup
                go_upto_if 68 with fail
                go_cut [11] from 69 to 74 (fun s11 W => s11 = .int .i64 0 ∧ W = W2)
                case first =>
                  cases u with
                  | false =>
                    go_wp2
                    go_meet
                    exact ⟨rfl, rfl⟩
                  | true =>
                    have hn0 := hdp.out rfl
                    subst hn0
                    go_wp2
                    go_meet
                    exact ⟨rfl, rfl⟩
                case rest =>
                obtain ⟨rfl, rfl⟩ := hcut
                obtain ⟨W2, rfl⟩ : ∃ W2 : World, W2 = wc := ⟨_, rfl⟩
                have INS := Lib.hid (show ∀ W B cb, Below W2.drew.heap.size W2.drew W → (B = none → cb = 0 ∧ key.length = 0) → ValsIn W B key → Hid (Calls Try.prog 9 #[.pointer (some ⟨p, 0, none⟩), .slice B key.length cb, .int .i64 id] W fun e w' => e = .returned (.int .i64 0) ∧ Hid (MI w w' p u (Q.length + 1) (i + 1) bx #[.int .i64 what, .slice kA key.length kc, .int .i64 id] mA mc Q (Q.map entP ++ [(key, id)]))) from fun W B cb hW hB hv => Lib.hid ((KB.out W hW).out.ins_new (by omega) (by omega) B cb hok.out (by omega) hB hv id hno'.out huj.out))
                have CB6 := Lib.hid (show ∀ W, Hid (MI w W p u (Q.length + 1) (i + 1) bx #[.int .i64 what, .slice kA key.length kc, .int .i64 id] mA mc Q (Q.map entP ++ [(key, id)])) → W.cell? ⟨bx, 1, none⟩ = some (.slice kA key.length kc) ∧ W.cell? ⟨bx, 2, none⟩ = some (.int .i64 id) from fun W h => ⟨h.out.box.cell 1, h.out.box.cell 2⟩)
                go_upto_region 26 with fail
                go_cut [83] from 75 to 83 (fun s83 W => s83 = .bool false ∧ Hid (MI w W p u (Q.length + 1) (i + 1) bx #[.int .i64 what, .slice kA key.length kc, .int .i64 id] mA mc Q (Q.map entP ++ [(key, id)])))
                case first =>
                  go_region_held3 (fun W' => W'.cell? ⟨bx, 1, none⟩ = some (.slice kA key.length kc) ∧ W'.cell? ⟨bx, 2, none⟩ = some (.int .i64 id)) (first | assumption | exact S0d) ((first
                    | (go_at_call 13; with_reducible refine Calls.mono (CPY.out) ?_; rintro e W5 ⟨B, cb, rfl, n5, v5, hB5⟩; have C5 := CB.out W5 hB5; have I5 := INS.out W5 B cb hB5 n5 v5; clear n5 v5)
                    | (go_at_call 9; with_reducible refine Calls.mono (I5.out) ?_; rintro e W6 ⟨rfl, hM6⟩; have C6 := CB6.out W6 hM6)))
                  all_goals
                    go_wp2
                    go_meet
                    exact ⟨rfl, hM6⟩
                case rest =>
                obtain ⟨rfl, hM6⟩ := hcut
                obtain ⟨W6, rfl⟩ : ∃ W6 : World, W6 = wc := ⟨_, rfl⟩
                clear CPY KB CB INS CB6 S0d y0 y1 y2 hMI
                go_upto_block 3 with fail
                go_cut [12] from 86 to 123 (fun s12 W => ∃ k : Nat, s12 = .int .i64 (k : Nat) ∧ Hid (PlE (Q.map entP) key id k) ∧ Hid (Below W6.heap.size W6 W))
                case first =>
                  have HR := Lib.hid (show ∀ j (hj : j < Q.length) W, Below W6.heap.size W6 W → (∃ b off, mA = some ⟨b, off, none⟩ ∧ W.cell? ⟨b, off + j * 2, none⟩ = some (.slice Q[j].kA Q[j].key.length Q[j].kc) ∧ W.cell? ⟨b, off + j * 2 + 1, none⟩ = some (.int .i64 Q[j].id)) ∧ (W.cell? ⟨bx, 1, none⟩ = some (.slice kA key.length kc) ∧ W.cell? ⟨bx, 2, none⟩ = some (.int .i64 id)) ∧ Gives Try.prog 22 #[.slice Q[j].kA Q[j].key.length Q[j].kc, .slice kA key.length kc] W (.int .i64 (rowsV Q[j].key key)) from fun j hj W hB => by
                    obtain ⟨h1, h2, h3⟩ := hKQ.out _ (List.getElem_mem hj)
                    have hw9 := (hM6.out.below hB).st.bel
                    obtain ⟨A9, c9, e9, _, _, _, q9⟩ := rowIn_own (c := entC) (s := 2) entC_len rfl hM6.out.own
                    injection e9 with e9
                    subst e9
                    have hbb := (hM6.out.below hB).box
                    exact ⟨row_ent q9 hB hj, ⟨hbb.cell 1, hbb.cell 2⟩, rows_ref _ _ _ _ _ _ h2 hok.out W (by omega) (by omega) (h1.below hw9) (hva.out.below hw9)⟩)
                  go_wp2_with fail
                  go_loopg [12] Q.length (fun m s12 W => ∃ j : Nat, m = Q.length - j ∧ j ≤ Q.length ∧ s12 = .int .i64 (j : Nat) ∧ Hid (∀ e ∈ (Q.map entP).take j, ahead e key id) ∧ Hid (Below W6.heap.size W6 W))
                  case atStart => exact ⟨0, by omega, by omega, rfl, Lib.hid (by simp), Lib.hid (Below.refl _ _)⟩
                  case round =>
                    obtain ⟨j, rfl, hj, rfl, hlo, hB⟩ := hrel
                    by_cases h2 : j < Q.length
                    · have h2' : (j : Int) < (Q.length : Int) := by omega
                      obtain ⟨Wj, rfl⟩ : ∃ Wj : World, Wj = wr := ⟨_, rfl⟩
                      have hm : ∀ y, Below W6.heap.size W6 (more Wj y) := fun y => hB.out.trans ((more_below Wj y).mono hB.out.size)
                      obtain ⟨⟨gq, oq, rfl, _⟩, _⟩ := HR.out j h2 Wj hB.out
                      have d0 : ∀ y, (more Wj y).cell? ⟨gq, oq + j * 2, none⟩ = some (.slice Q[j].kA Q[j].key.length Q[j].kc) := fun y => by
                        obtain ⟨⟨_, _, e, q1, q2⟩, _⟩ := HR.out j h2 (more Wj y) (hm y)
                        injection e with e; injection e with e1 e2; subst e1 e2; exact q1
                      have d1 : ∀ y, (more Wj y).cell? ⟨gq, oq + j * 2 + 1, none⟩ = some (.int .i64 Q[j].id) := fun y => by
                        obtain ⟨⟨_, _, e, q1, q2⟩, _⟩ := HR.out j h2 (more Wj y) (hm y)
                        injection e with e; injection e with e1 e2; subst e1 e2; exact q2
                      have d2 : ∀ y, (more Wj y).cell? ⟨bx, 1, none⟩ = some (.slice kA key.length kc) := fun y => (HR.out j h2 (more Wj y) (hm y)).2.1.1
                      have d3 : ∀ y, (more Wj y).cell? ⟨bx, 2, none⟩ = some (.int .i64 id) := fun y => (HR.out j h2 (more Wj y) (hm y)).2.1.2
                      have CR := Lib.hid (fun y => (HR.out j h2 (more Wj y) (hm y)).2.2)
                      replace hm := Lib.hid hm
                      have hnx := Lib.hid (show ahead (entP Q[j]) key id → ∀ e ∈ (Q.map entP).take (j + 1), ahead e key id from fun h e he => by
                        rw [List.take_succ_eq_append_getElem (by simpa using h2)] at he
                        rcases List.mem_append.1 he with q | q
                        · exact hlo.out e q
                        · simp at q; subst q; exact h)
                      have hst := Lib.hid (show ¬ ahead (entP Q[j]) key id → PlE (Q.map entP) key id j from fun h => ⟨by simpa using hj, hlo.out, fun hh => by simpa using h⟩)
                      have hah : ahead (entP Q[j]) key id ↔ rowsV Q[j].key key < 0 ∨ (rowsV Q[j].key key = 0 ∧ Q[j].id < id) := Iff.rfl
                      rw [hah] at hnx hst
                      clear hah hlo
                      generalize Q[j] = q at *
                      generalize hr : rowsV q.key key = r at *
                      clear hr
                      go_upto_region 30 with fail
                      rcases Int.lt_trichotomy r 0 with hr | hr | hr
                      · have hr0 : (r < 0) = True := eq_true hr
                        have hfin := Lib.hid (hnx.out (.inl hr))
                        clear hr hnx hst
                        refine wp_region_more (by kernel_rfl) (by kernel_rfl) ?_
                        repeat (go_big_quiet_step (((with_reducible exact (CR.out _).at_))))
                        refine wpQuiet_nil ?_
                        rintro _ ⟨z, rfl⟩
                        go_wp2
                        go_roundg (Q.length - (j + 1))
                        case measure => omega
                        case rel => exact ⟨j + 1, rfl, by omega, by go_num, hfin, Lib.hid (hm.out z)⟩
                      · subst hr
                        by_cases hid : q.id < id
                        · have hfin := Lib.hid (hnx.out (.inr ⟨rfl, hid⟩))
                          clear hnx hst
                          refine wp_region_more (by kernel_rfl) (by kernel_rfl) ?_
                          repeat (go_big_quiet_step (((with_reducible exact (CR.out _).at_))))
                          refine wpQuiet_nil ?_
                          rintro _ ⟨z, rfl⟩
                          go_wp2
                          go_roundg (Q.length - (j + 1))
                          case measure => omega
                          case rel => exact ⟨j + 1, rfl, by omega, by go_num, hfin, Lib.hid (hm.out z)⟩
                        · have hfin := Lib.hid (hst.out (fun h => h.elim (fun h => by omega) (fun h => hid h.2)))
                          have hid' : (q.id < id) = False := eq_false hid
                          clear hnx hst hid
                          refine wp_region_more (by kernel_rfl) (by kernel_rfl) ?_
                          repeat (go_big_quiet_step (((with_reducible exact (CR.out _).at_))))
                          refine wpQuiet_nil ?_
                          rintro _ ⟨z, rfl⟩
                          go_wp2
                          go_meet
                          exact ⟨j, rfl, hfin, Lib.hid (hm.out z)⟩
                      · have hr0 : (r < 0) = False := eq_false (by omega)
                        have hr1 : (r == 0) = false := by simp; omega
                        have hfin := Lib.hid (hst.out (fun h => h.elim (fun h => by omega) (fun h => by omega)))
                        clear hr hnx hst
                        refine wp_region_more (by kernel_rfl) (by kernel_rfl) ?_
                        repeat (go_big_quiet_step (((with_reducible exact (CR.out _).at_))))
                        refine wpQuiet_nil ?_
                        rintro _ ⟨z, rfl⟩
                        go_wp2
                        go_meet
                        exact ⟨j, rfl, hfin, Lib.hid (hm.out z)⟩
                    · have e : j = Q.length := by omega
                      subst e
                      have h2' : ((Q.length : Int) < (Q.length : Int)) = False := eq_false (by omega)
                      have hfin : Hid (PlE (Q.map entP) key id Q.length) := Lib.hid ⟨by simp, hlo.out, (fun h => by simp at h)⟩
                      obtain ⟨Wj, rfl⟩ : ∃ Wj : World, Wj = wr := ⟨_, rfl⟩
                      go_upto_region 30 with fail
                      refine wp_region_more (by kernel_rfl) (by kernel_rfl) ?_
                      repeat (go_big_quiet_step (fail))
                      refine wpQuiet_nil ?_
                      rintro _ ⟨z, rfl⟩
                      go_wp2
                      go_meet
                      exact ⟨_, rfl, hfin, Lib.hid (hB.out.trans ((more_below Wj z).mono hB.out.size))⟩
                case rest =>
                obtain ⟨k, rfl, hPl, hB7⟩ := hcut
                obtain ⟨W7, rfl⟩ : ∃ W7 : World, W7 = wc := ⟨_, rfl⟩
                have h7 := Lib.hid (hM6.out.below hB7.out)
                have hkl : k ≤ Q.length := by have := hPl.out.le; simpa using this
                clear hM6 hB7
                obtain ⟨i0, hi0, hz0, hz1, hz2⟩ := info_parts info_ent
                have hszi : (Try.prog.info? 56).map (·.size) = some 2 := by rw [hi0, Option.map_some, hz1]
                have news := Lib.hid (show ∀ ad, some (⟨W7.heap.size, 0, none⟩ : Addr) = some ad → ∀ j u, (entC ⟨none, 0, [], 0⟩)[j]? = some u → (W7.alloc (.cells #[.slice none 0 0, .int .i64 0] 56)).cell? (ad.add j) = some u from fun ad e j u hu => by
                  cases e
                  exact cells_at W7 (entC ⟨none, 0, [], 0⟩) _ rfl j u hu)
                have ownA := Lib.hid (h7.out.own.alloc (.cells #[.slice none 0 0, .int .i64 0] 56))
                have hsz : Hid (w.heap.size ≤ (W7.alloc (.cells #[.slice none 0 0, .int .i64 0] 56)).heap.size) := Lib.hid (by have := h7.out.st.bel.size; simp; omega)
                have OPEN := Lib.hid (show ∀ v2 W8, W8.ownsRow w.heap.size 56 2 v2 (Q.length + 1) (rowC entC Q ++ entC ⟨none, 0, [], 0⟩) → (W7.alloc (.cells #[.slice none 0 0, .int .i64 0] 56)).grownBy W8 (Value.slice mA Q.length mc).ownBlock → (v2.ownBlock = (Value.slice mA Q.length mc).ownBlock ∨ v2.ownBlock = some (W7.alloc (.cells #[.slice none 0 0, .int .i64 0] 56)).heap.size) → ∃ g3 c3, v2 = .slice (some ⟨g3, 0, none⟩) (Q.length + 1) c3 ∧ Hid (MI w W8 p u (Q.length + 1) (i + 1) bx #[.int .i64 what, .slice kA key.length kc, .int .i64 id] (some ⟨g3, 0, none⟩) c3 (Q ++ [⟨none, 0, [], 0⟩]) (Q.map entP ++ [(key, id)])) from fun v2 W8 own8 grow8 loc8 => by
                  have e9 : ∃ g3 c3, v2 = .slice (some ⟨g3, 0, none⟩) (Q.length + 1) c3 := by
                    rcases own8.2 with ⟨_, h⟩ | ⟨g, cap, cur, e, _⟩
                    · omega
                    · exact ⟨g, cap, e⟩
                  obtain ⟨g3, c3, rfl⟩ := e9
                  have el : (Q ++ [(⟨none, 0, [], 0⟩ : Ent)]).length = Q.length + 1 := by simp
                  refine ⟨g3, c3, rfl, Lib.hid (h7.out.wrote (grown_after grow8) (by rw [el, rowC_append, rowC_single]; exact own8) (fun g e => ?_))⟩
                  rcases loc8 with q | q
                  · exact .inl (q.symm.trans e)
                  · have q2 : (Value.slice (some ⟨g3, 0, none⟩) (Q.length + 1) c3).ownBlock = some g := e
                    rw [q] at q2
                    injection q2 with q2
                    exact .inr (by rw [← q2]; simp))
                go_wp2_with (first
                  | (at_builtin; refine wpList_append_row rfl _ _ 46 rfl w.heap.size 56 i0 _ 2 32 Try.underlying46 hi0 hz0 hz1 hz2 rfl (by decide) (.slice mA Q.length mc) Q.length (rowC entC Q) rfl ownA.out (some ⟨W7.heap.size, 0, none⟩) 1 1 (entC ⟨none, 0, [], 0⟩) rfl (fun e => by cases e) rfl news.out (entC_one _) (by unfold maxLen; omega) (by omega) hsz.out ?_; intro v2 W8 own8 grow8 loc8; obtain ⟨g3, c3, rfl, h8⟩ := OPEN.out v2 W8 own8 grow8 loc8; clear own8 grow8 loc8 OPEN)
                  | fail)
                have own8' := Lib.hid (show W8.drew.ownsRow w.heap.size 56 2 (.slice (some ⟨g3, 0, none⟩) (Q.length + 1) c3) (Q.length + 1) (rowC entC (Q ++ [⟨none, 0, [], 0⟩])) from by
                  have := h8.out.own
                  have el : (Q ++ [(⟨none, 0, [], 0⟩ : Ent)]).length = Q.length + 1 := by simp
                  rw [el] at this
                  exact own_below this (Below.drew (Below.refl _ _)))
                have hc13 : Q.length + 1 ≤ c3 ∧ c3 ≤ 9223372036854775807 := ⟨(own_at own8'.out).1, (own_at own8'.out).2.1⟩
                obtain ⟨hc3, hc39⟩ := hc13
                obtain ⟨news8, hcl, hcl2, hc1, hfin3⟩ := ins_pack (z := ⟨none, 0, [], 0⟩) entC_len (by decide) entC_one (rfl : Q.length = Q.length) k hkl own8'.out
                have BX := Lib.hid (show ∀ w4, W8.drew.grownBy w4 (some g3) → w4.cell? ⟨bx, 1, none⟩ = some (.slice kA key.length kc) ∧ w4.cell? ⟨bx, 2, none⟩ = some (.int .i64 id) from fun w4 h4 => by
                  have hne : bx ≠ g3 := fun e => h8.out.ne (by rw [e]; rfl)
                  have hb9 : Blk w4 bx #[.int .i64 what, .slice kA key.length kc, .int .i64 id] 51 := (h4.block bx h8.out.box.lt (fun e => by injection e with e; exact hne e)).trans h8.out.box
                  exact ⟨hb9.cell 1, hb9.cell 2⟩)
                have FINN := Lib.hid (show ∀ W9 c9, W9.ownsRow w.heap.size 56 2 (.slice (some ⟨g3, 0, none⟩) (Q.length + 1) c9) (Q.length + 1) (rowC entC (insAt Q k ⟨kA, kc, key, id⟩)) → W8.drew.grownBy W9 (some g3) → Hid (MSt w W9 p u (i + 1) (fun g => g = bx) (some ⟨g3, 0, none⟩) c9 (insAt Q k ⟨kA, kc, key, id⟩) ∧ Blk W9 bx #[.int .i64 what, .slice kA key.length kc, .int .i64 id] 51) from fun W9 c9 own9 grow9 => by
                  have el : (insAt Q k (⟨kA, kc, key, id⟩ : Ent)).length = Q.length + 1 := insAt_length _ _ _
                  have h9 := (h8.out.wrote (mA' := some ⟨g3, 0, none⟩) (mc' := c9) (Q' := insAt Q k ⟨kA, kc, key, id⟩) (grown_drew grow9) (by rw [el]; exact own9) (fun g e => .inl e)).congr (I' := (insAt Q k ⟨kA, kc, key, id⟩).map entP) (fun x => by rw [insAt_map9, insAt_memE]; simp [entP])
                  rw [← el] at h9
                  refine FIN.out _ _ _ _ h9 (fun q hq => ?_) ?_ (by rw [el]; omega)
                  · rcases (insAt_perm Q k (⟨kA, kc, key, id⟩ : Ent)).mem_iff.1 hq with _ | ⟨_, hq⟩
                    · exact ⟨hva.out, hok.out, by show key.length ≤ 1000; omega⟩
                    · exact hKQ.out q hq
                  · rw [insAt_map9]
                    exact hPl.out.sort okM.out hSQ.out hok.out hno'.out)
                have hwr : IntKind.i64.wrap ((k : Int) + 1) = (k : Int) + 1 := IntWalk.i64_in _ (by omega)
                have hle0 : (0 : Int) ≤ (k : Int) + 1 := by omega
                have hle1 : (k : Int) + 1 ≤ (Q.length : Int) + 1 := by omega
                have hle3 : (k : Int) ≤ (Q.length : Int) + 1 := by omega
                have hle4 : (k : Int) < (Q.length : Int) + 1 := by omega
                have hle5 : k ≤ Q.length + 1 := by omega
                have hK2 : ((k : Int) + 1).toNat = k + 1 := by omega
                have hK4 : (c3 = k) = False := by simp; omega
                replace news8 := Lib.hid news8
                replace hcl := Lib.hid hcl
                replace hcl2 := Lib.hid hcl2
                replace hc1 := Lib.hid hc1
                replace hfin3 := Lib.hid hfin3
                clear h7 h8 news ownA hsz
                by_cases hcap : c3 = k + 1
                · subst hcap
                  go_region_law ((refine step_copy_own (by rfl) (.tmp 131) (.tmp 134) 46 46 (by rfl) 56 2 Try.underlying46 hszi (some ⟨g3, 0, none⟩) (some ⟨g3, k * 2, none⟩) (0) (0) (Q.length + 1 - k) (1) (by kernel_rfl) (by kernel_rfl) w.heap.size 56 (.slice (some ⟨g3, 0, none⟩) (Q.length + 1) (k + 1)) (Q.length + 1) _ g3 (k + 1) rfl own8'.out ((k + 1) * 2) (Q.length - k) (show _ = min _ _ by omega) _ hcl.out (fun h => absurd h (by omega)) hcl2.out hc1.out ?_; intro w4 own4 grow4; obtain ⟨f1, f2, f3, f4⟩ := hfin3.out ⟨kA, kc, key, id⟩ w4 own4 grow4; have f10 := f1 0 (by decide); have f11 := f1 1 (by decide); obtain ⟨u40, f10⟩ := f10; obtain ⟨u41, f11⟩ := f11; rw [Nat.add_zero] at f10; obtain ⟨z1, z2⟩ := BX.out w4 grow4))
                  have f2a := f2 (k * 2)
                  have f2b := f2 (k * 2 + 1)
                  have hfin := FINN.out _ _ f3 f4
                  clear f3 f4 hfin3 news8 hcl hcl2 hc1 own8' own4 grow4 f1 f2 BX FINN
                  go_wp2
                  go_meet
                  exact ⟨some ⟨g3, 0, none⟩, _, insAt Q k ⟨kA, kc, key, id⟩, by rw [insAt_length], hfin⟩
                · have hcap2 : (c3 = k + 1) = False := eq_false hcap
                  clear hcap
                  go_region_law ((refine step_copy_own (by rfl) (.tmp 131) (.tmp 134) 46 46 (by rfl) 56 2 Try.underlying46 hszi (some ⟨g3, (k + 1) * 2, none⟩) (some ⟨g3, k * 2, none⟩) (Q.length - k) (c3 - (k + 1)) (Q.length + 1 - k) (c3 - k) (by kernel_rfl) (by kernel_rfl) w.heap.size 56 (.slice (some ⟨g3, 0, none⟩) (Q.length + 1) c3) (Q.length + 1) _ g3 c3 rfl own8'.out ((k + 1) * 2) (Q.length - k) (show _ = min _ _ by omega) _ hcl.out (fun h => ⟨rfl, _, rfl, news8.out⟩) hcl2.out hc1.out ?_; intro w4 own4 grow4; obtain ⟨f1, f2, f3, f4⟩ := hfin3.out ⟨kA, kc, key, id⟩ w4 own4 grow4; have f10 := f1 0 (by decide); have f11 := f1 1 (by decide); obtain ⟨u40, f10⟩ := f10; obtain ⟨u41, f11⟩ := f11; rw [Nat.add_zero] at f10; obtain ⟨z1, z2⟩ := BX.out w4 grow4))
                  have f2a := f2 (k * 2)
                  have f2b := f2 (k * 2 + 1)
                  have hfin := FINN.out _ _ f3 f4
                  clear f3 f4 hfin3 news8 hcl hcl2 hc1 own8' own4 grow4 f1 f2 BX FINN
                  go_wp2
                  go_meet
                  exact ⟨some ⟨g3, 0, none⟩, _, insAt Q k ⟨kA, kc, key, id⟩, by rw [insAt_length], hfin⟩
            · have hk0 : (0 : Int) ≤ (k : Int) := by omega
              have hin : Hid ((key, id) ∈ Q.map entP) := Lib.hid (by rw [← hk2]; exact List.getElem_mem hk)
              have INS := Lib.hid (show ∀ W B cb, Below W2.drew.heap.size W2.drew W → (B = none → cb = 0 ∧ key.length = 0) → ValsIn W B key → Hid (Calls Try.prog 9 #[.pointer (some ⟨p, 0, none⟩), .slice B key.length cb, .int .i64 id] W fun e w' => e = .returned (.int .i64 72) ∧ Hid (MI w w' p u Q.length (i + 1) bx #[.int .i64 what, .slice kA key.length kc, .int .i64 id] mA mc Q (Q.map entP))) from fun W B cb hW hB hv => Lib.hid ((KB.out W hW).out.ins_old (by omega) (by omega) B cb hok.out (by omega) hB hv id 72 (.inl ⟨hin.out, rfl⟩)))
              have CB6 := Lib.hid (show ∀ W, Hid (MI w W p u Q.length (i + 1) bx #[.int .i64 what, .slice kA key.length kc, .int .i64 id] mA mc Q (Q.map entP)) → W.cell? ⟨bx, 1, none⟩ = some (.slice kA key.length kc) ∧ W.cell? ⟨bx, 2, none⟩ = some (.int .i64 id) from fun W h => ⟨h.out.box.cell 1, h.out.box.cell 2⟩)
              clear hk hk2
              go_upto_region 26 with fail
              go_region_held3 (fun W' => W'.cell? ⟨bx, 1, none⟩ = some (.slice kA key.length kc) ∧ W'.cell? ⟨bx, 2, none⟩ = some (.int .i64 id)) (first | assumption | exact S0d) ((first
                | (go_at_call 13; with_reducible refine Calls.mono (CPY.out) ?_; rintro e W5 ⟨B, cb, rfl, n5, v5, hB5⟩; have C5 := CB.out W5 hB5; have I5 := INS.out W5 B cb hB5 n5 v5; clear n5 v5)
                | (go_at_call 9; with_reducible refine Calls.mono (I5.out) ?_; rintro e W6 ⟨rfl, hM6⟩; have C6 := CB6.out W6 hM6)))
              all_goals
                clear CPY KB CB INS CB6 C6 S0d
                go_wp2
                go_meet
                exact ⟨mA, mc, Q, rfl, FIN.out _ _ _ _ hM6.out hKQ.out hSQ.out (by omega)⟩
          · have hw' : (what ≤ 3) = False := eq_false hw
            rcases AT.out with ⟨rfl, hno⟩ | ⟨k, rfl, hk, hk2⟩
            · have ER := Lib.hid (hMI.out.era_no (by omega) (by omega) kA kc hok.out (by omega) hva.out id hno)
              clear hno hw
              go_wp2_with fail
              refine ER.out.mono ?_
              rintro e W6 ⟨rfl, hM6⟩
              clear ER
              go_wp2
              go_meet
              exact ⟨mA, mc, Q, rfl, FIN.out _ _ _ _ hM6.out hKQ.out hSQ.out (by omega)⟩
            · have hk0 : (0 : Int) ≤ (k : Int) := by omega
              obtain ⟨i0, hi0, hz0, hz1, hz2⟩ := info_parts info_ent
              have hkl : k < Q.length := by simpa using hk
              obtain ⟨gm, rfl⟩ : ∃ gm, mA = some ⟨gm, 0, none⟩ := by
                rcases hMI.out.own.2 with ⟨e, _⟩ | ⟨g, cap, cur, e, _⟩
                · injection e with _ e2 _; omega
                · injection e with e1; exact ⟨g, e1⟩
              obtain ⟨hc1, hc2, hge, hgl, hcell, _⟩ := own_at hMI.out.own
              have hin : Hid ((key, id) ∈ Q.map entP) := Lib.hid (by rw [← hk2]; exact List.getElem_mem hk)
              have hmem : Hid (∀ e, e ∈ (delAt Q k).map entP ↔ e ∈ Q.map entP ∧ e ≠ (key, id)) := Lib.hid (fun e => by rw [delAt_map9, delAt_mem hSQ.out hk, hk2])
              have hdl : Hid ((delAt Q k).length = Q.length - 1) := Lib.hid (by have := delAt_length Q hkl; omega)
              have nil := Lib.hid (World.ownsRow_nil W2 W2.heap.size 56 2)
              have hkl' : (k : Int) < (Q.length : Int) := by omega
              have hkc : (k : Int) < (mc : Int) := by omega
              have hkc0 : (k : Int) ≤ (mc : Int) := by omega
              have hkc1 : (k : Int) + 1 ≤ (mc : Int) := by omega
              have hkl1 : (k : Int) + 1 ≤ (Q.length : Int) := by omega
              have hk9 : (k : Int) < 1000 := by omega
              have hwr : IntKind.i64.wrap ((k : Int) + 1) = (k : Int) + 1 := IntWalk.i64_in _ (by omega)
              have htn : ((k : Int) + 1).toNat = k + 1 := by omega
              have hp0 : (0 : Int) ≤ (k : Int) + 1 := by omega
              have hkcN : k ≤ mc := by omega
              have hkc1N : k + 1 ≤ mc := by omega
              have hklN : k + 1 ≤ Q.length := by omega
              have htk : (Q.take k).length = k := by rw [List.length_take]; omega
              have FC := Lib.hid (show ∀ V, Below W2.heap.size W2 V → (∀ ad, some (⟨gm, 0, none⟩ : Addr) = some ad → ∀ j u, (rowC entC (Q.take k))[j]? = some u → V.cell? (ad.add j) = some u) ∧ ∀ j u, (rowC entC (Q.drop (k + 1)))[j]? = some u → V.cell? ⟨gm, (k + 1) * 2 + j, none⟩ = some u from fun V hV => by
                have q2 : V.heap[gm]? = W2.heap[gm]? := hV.block gm hgl
                refine ⟨fun ad e j u hu => ?_, fun j u hu => ?_⟩
                · cases e
                  rw [Go.WideShapes.add_plain, Nat.zero_add]
                  refine (World.cell?_of_block (w := W2) (a := ⟨gm, j, none⟩) q2).trans (hcell j u ?_)
                  rw [← rowC_take entC_len Q k (by omega)] at hu
                  rw [List.getElem?_take] at hu
                  split at hu
                  · exact hu
                  · cases hu
                · refine (World.cell?_of_block (w := W2) (a := ⟨gm, (k + 1) * 2 + j, none⟩) q2).trans (hcell _ u ?_)
                  rw [← rowC_drop entC_len Q (k + 1) (by omega), List.getElem?_drop] at hu
                  exact hu)
              have NB := Lib.hid (show ∀ W3, W2.drew.grownBy W3 (Value.slice none 0 0).ownBlock → Below W2.heap.size W2 W3 from fun W3 h => ⟨h.os, h.tape, h.output, h.size, fun j hj => h.block j hj (by simp [Value.ownBlock])⟩)
              have KC := Lib.hid (show ∀ W3 W4 A3 c3 xs, Below W2.heap.size W2 W3 → W3.ownsRow W2.heap.size 56 2 (.slice A3 k c3) k xs → W3.grownBy W4 (Value.slice A3 k c3).ownBlock → Below W2.heap.size W2 W4 from fun W3 W4 A3 c3 xs b1 o h2 =>
                b1.trans ⟨h2.os, h2.tape, h2.output, h2.size, fun j hj => h2.block j (Nat.lt_of_lt_of_le hj b1.size) (fun e => by have := own_ge o j e.symm; omega)⟩)
              have hdr : Hid ((rowC entC (Q.drop (k + 1))).length = (Q.length - (k + 1)) * 2) := Lib.hid (by rw [rowC_length entC_len, List.length_drop])
              have hlen : k + (Q.length - (k + 1)) = (delAt Q k).length := by rw [hdl.out]; omega
              have DEL := Lib.hid (show ∀ W4 A4 c4, Below W2.heap.size W2 W4 → W4.ownsRow W2.heap.size 56 2 (.slice A4 (delAt Q k).length c4) (delAt Q k).length (rowC entC (Q.take k) ++ rowC entC (Q.drop (k + 1))) → (W4.cell? ⟨bx, 1, none⟩ = some (.slice kA key.length kc) ∧ W4.cell? ⟨bx, 2, none⟩ = some (.int .i64 id)) ∧ Hid (Calls Try.prog 18 #[.pointer (some ⟨p, 0, none⟩), .slice kA key.length kc, .int .i64 id] W4 fun e w' => e = .returned (.int .i64 0) ∧ Hid (MI w w' p u (delAt Q k).length (i + 1) bx #[.int .i64 what, .slice kA key.length kc, .int .i64 id] A4 c4 (delAt Q k) ((delAt Q k).map entP))) from fun W4 A4 c4 hb own => by
                have own' : W4.ownsRow w.heap.size 56 2 (.slice A4 (delAt Q k).length c4) (delAt Q k).length (rowC entC (delAt Q k)) := by
                  unfold delAt at own ⊢
                  rw [← rowC_append] at own
                  exact own_lower own hMI.out.st.bel.size
                have h4 := hMI.out.wrote (mA' := A4) (mc' := c4) (Q' := delAt Q k) ⟨hb.os, hb.tape, hb.output, hb.size, fun j hj _ => hb.block j hj⟩ own' (fun g e => .inr (own_ge own g e))
                refine ⟨⟨h4.box.cell 1, h4.box.cell 2⟩, Lib.hid ?_⟩
                have := h4.era_yes (I' := (delAt Q k).map entP) (by omega) (by omega) (by omega) kA kc hok.out (by omega) hva.out id hin.out hmem.out
                rwa [← hdl.out] at this)
              have hKD : Hid (keysE w (delAt Q k)) := Lib.hid (fun q hq => hKQ.out q (by
                unfold delAt at hq
                rcases List.mem_append.1 hq with r | r
                · exact List.mem_of_mem_take r
                · exact List.mem_of_mem_drop r))
              have hSD : Hid (SortE ((delAt Q k).map entP)) := Lib.hid (by rw [delAt_map9]; exact delAt_sort hSQ.out k)
              have hLD : Hid ((delAt Q k).length ≤ i + 1) := Lib.hid (by rw [hdl.out]; omega)
              clear hk hk2 hw hmem hin hcell hge hgl
              rcases Nat.lt_or_ge (k + 1) mc with hkk | hkk
              · have hcap : ((mc : Int) = (k : Int) + 1) = False := eq_false (by omega)
                have hcap' : (mc = k + 1) = False := eq_false (by omega)
                go_wp2_with fail
                go_region_law (first
  | (refine step_append_row (by rfl) (.const (.slice none 0 0)) (.tmp 48) 46 (by rfl) W2.heap.size 56 i0 _ 2 32 Try.underlying46 hi0 hz0 hz1 hz2 (by rfl) (by decide) (.slice none 0 0) 0 [] (by rfl) (own_below nil.out (by repeat (first | (with_reducible exact Below.refl _ _) | (with_reducible refine Below.drew ?_) | (with_reducible refine Below.alloc ?_ (by simp [more_size]; try omega) _) | (with_reducible refine Below.setCell ?_ (by simp [more_size]; try omega) _) | (with_reducible refine below_more ?_ _ (by simp [more_size]; try omega))))) (some ⟨gm, 0, none⟩) k mc (rowC entC (Q.take k)) (by rfl) (fun e => by cases e) (by rw [rowC_length entC_len, htk]) (FC.out _ (by repeat (first | (with_reducible exact Below.refl _ _) | (with_reducible refine Below.drew ?_) | (with_reducible refine Below.alloc ?_ (by simp [more_size]; try omega) _) | (with_reducible refine Below.setCell ?_ (by simp [more_size]; try omega) _) | (with_reducible refine below_more ?_ _ (by simp [more_size]; try omega))))).1 (rowC_one entC_one _) (by unfold maxLen; omega) (by omega) (Nat.le_refl _) ?_; intro A3 c3 W3 own3 grow3 loc3; rw [Nat.zero_add, List.nil_append] at own3; have hB3 := NB.out W3 grow3; have n3 := Lib.hid (FC.out W3 hB3).2)
  | (refine step_append_row (by rfl) (.tmp 49) (.tmp 53) 46 (by rfl) W2.heap.size 56 i0 _ 2 32 Try.underlying46 hi0 hz0 hz1 hz2 (by rfl) (by decide) (.slice A3 k c3) k (rowC entC (Q.take k)) (by rfl) own3 (some ⟨gm, (k + 1) * 2, none⟩) (Q.length - (k + 1)) (mc - (k + 1)) (rowC entC (Q.drop (k + 1))) (by rfl) (fun e => by cases e) hdr.out (fun ad e j u hu => by cases e; rw [Go.WideShapes.add_plain]; exact n3.out j u hu) (rowC_one entC_one _) (by unfold maxLen; omega) (by omega) hB3.size ?_; intro A4 c4 W4 own4 grow4 loc4; have hB4 := KC.out W3 W4 A3 c3 _ hB3 own3 grow4))
                all_goals
                  rw [hlen] at own4
                  obtain ⟨⟨d1, d2⟩, ER⟩ := DEL.out W4 A4 c4 hB4 own4
                  clear DEL own4 grow4 loc4 hB4 own3 grow3 loc3 hB3 n3 FC KC NB nil
                  go_simp
                  try rw [hlen]
                  go_wp2_with fail
                  refine ER.out.mono ?_
                  rintro e W6 ⟨rfl, hM6⟩
                  clear ER
                  go_wp2
                  go_meet
                  exact ⟨A4, c4, delAt Q k, rfl, FIN.out _ _ _ _ hM6.out hKD.out hSD.out hLD.out⟩
              · have hcap : mc = k + 1 := by omega
                have hlk : Q.length = k + 1 := by omega
                have hz : Q.drop (k + 1) = [] := List.drop_eq_nil_of_le (by omega)
                have hk12 : ((k : Int) ≤ (k : Int) + 1) = True := eq_true (by omega)
                have hdk : (delAt Q k).length = k := by rw [hdl.out]; omega
                have DEL2 := Lib.hid (fun W4 A4 c4 (hb : Below W2.heap.size W2 W4) (own : W4.ownsRow W2.heap.size 56 2 (.slice A4 (k + 0) c4) (k + 0) (rowC entC (Q.take k) ++ [])) => DEL.out W4 A4 c4 hb (by rw [hdk, hz]; exact own))
                replace hdk := Lib.hid hdk
                clear DEL hdr hlk hz hlen
                subst hcap
                go_wp2_with fail
                go_region_law (first
  | (refine step_append_row (by rfl) (.const (.slice none 0 0)) (.tmp 48) 46 (by rfl) W2.heap.size 56 i0 _ 2 32 Try.underlying46 hi0 hz0 hz1 hz2 (by rfl) (by decide) (.slice none 0 0) 0 [] (by rfl) (own_below nil.out (by repeat (first | (with_reducible exact Below.refl _ _) | (with_reducible refine Below.drew ?_) | (with_reducible refine Below.alloc ?_ (by simp [more_size]; try omega) _) | (with_reducible refine Below.setCell ?_ (by simp [more_size]; try omega) _) | (with_reducible refine below_more ?_ _ (by simp [more_size]; try omega))))) (some ⟨gm, 0, none⟩) k (k + 1) (rowC entC (Q.take k)) (by rfl) (fun e => by cases e) (by rw [rowC_length entC_len, htk]) (FC.out _ (by repeat (first | (with_reducible exact Below.refl _ _) | (with_reducible refine Below.drew ?_) | (with_reducible refine Below.alloc ?_ (by simp [more_size]; try omega) _) | (with_reducible refine Below.setCell ?_ (by simp [more_size]; try omega) _) | (with_reducible refine below_more ?_ _ (by simp [more_size]; try omega))))).1 (rowC_one entC_one _) (by unfold maxLen; omega) (by omega) (Nat.le_refl _) ?_; intro A3 c3 W3 own3 grow3 loc3; rw [Nat.zero_add, List.nil_append] at own3; have hB3 := NB.out W3 grow3; have n3 := Lib.hid (FC.out W3 hB3).2)
  | (refine step_append_row (by rfl) (.tmp 49) (.tmp 53) 46 (by rfl) W2.heap.size 56 i0 _ 2 32 Try.underlying46 hi0 hz0 hz1 hz2 (by rfl) (by decide) (.slice A3 k c3) k (rowC entC (Q.take k)) (by rfl) own3 (some ⟨gm, 0, none⟩) 0 0 [] (by rfl) (fun e => by cases e) (by simp) (fun ad e j u hu => by simp at hu) (fun u hu => by simp at hu) (by unfold maxLen; omega) (by omega) hB3.size ?_; intro A4 c4 W4 own4 grow4 loc4; have hB4 := KC.out W3 W4 A3 c3 _ hB3 own3 grow4))
                all_goals
                  obtain ⟨⟨d1, d2⟩, ER⟩ := DEL2.out W4 A4 c4 hB4 own4
                  clear DEL2 own4 grow4 loc4 hB4 own3 grow3 loc3 hB3 n3 FC KC NB nil
                  go_simp
                  go_wp2_with fail
                  refine ER.out.mono ?_
                  rintro e W6 ⟨rfl, hM6⟩
                  clear ER
                  go_wp2
                  go_meet
                  exact ⟨A4, c4, delAt Q k, by rw [hdk.out], FIN.out _ _ _ _ hM6.out hKD.out hSD.out hLD.out⟩
        case rest =>
          clear hM2 hb2 AT IDM y0 y1 y2 hnI
          obtain ⟨mA2, mc2, Q2, rfl, hM⟩ := hcut
          have y1 := hM.out.2.cell 1
          have y2 := hM.out.2.cell 2
          have FN2 := Lib.hid (hM.out.1.find (by omega) kA kc key id hva.out hok.out (by omega))
          have KEEP := Lib.hid (show ∀ W, Below wc.heap.size wc W → Hid (MSt w W p u (i + 1) (fun g => g = bx) mA2 mc2 Q2 ∧ Blk W bx #[.int .i64 what, .slice kA key.length kc, .int .i64 id] 51) from fun W hW => Lib.hid ⟨hM.out.1.onto hW (fun g hg => ⟨by rw [hg]; exact Nat.lt_of_lt_of_le hM.out.2.lt hW.size, .inl hg⟩), hM.out.2.below hW hM.out.2.lt⟩)
          have okM := Lib.hid hM.out.1.ok
          have hQl : Q2.length ≤ 81 := by have := hM.out.1.le; omega
          go_wp2_with fail
          refine FN2.out.mono ?_
          rintro e W3 ⟨vB, vcB, aB, rfl, hX⟩
          have h3 := KEEP.out W3 hX.out.2.2
          have z1 := h3.out.2.cell 1
          have z2 := h3.out.2.cell 2
          have FD := Lib.hid (h3.out.1.st.find (by omega) kA kc hok.out (by omega) (hva.out.below h3.out.1.bel) okM.out h3.out.1.srt)
          have hidsl : Hid ((idsOf (Q2.map entP) key).length ≤ 1000) := Lib.hid (by have := idsOf_le (Q2.map entP) key; rw [List.length_map] at this; omega)
          have AT2 := Lib.hid (hX.out.2.1.mem okM.out hok.out)
          clear FN2 y1 y2
          go_wp2_with fail
          refine FD.out.mono ?_
          rintro e W4 ⟨B4, c4, rfl, hX4⟩
          have ID := Lib.hid (ids_same B4 vB c4 vcB (idsOf (Q2.map entP) key) W4 hidsl.out hX4.out.1 (hX.out.1.below hX4.out.2))
          have hb4 := Lib.hid (hX.out.2.2.trans (hX4.out.2.mono hX.out.2.2.size))
          clear FD z1 z2 h3 hX hX4
          go_wp2_with fail
          refine ID.out.mono' ?_; intro y
          have hb5 := Lib.hid (hb4.out.trans ((more_below W4 y).mono hb4.out.size))
          clear ID hb4
          generalize more W4 y = W5 at *
          have h5 := KEEP.out W5 hb5.out
          have z1 := h5.out.2.cell 1
          have z2 := h5.out.2.cell 2
          obtain ⟨r, hr0, hr⟩ : ∃ r : Bool, decide (0 ≤ aB) = r ∧ (r = true ↔ (key, id) ∈ Q2.map entP) := by
            rcases AT2.out with ⟨rfl, q⟩ | ⟨k, rfl, hk, q⟩
            · exact ⟨false, rfl, by simp [q]⟩
            · exact ⟨true, by simp, fun _ => by rw [← q]; exact List.getElem_mem hk, fun _ => rfl⟩
          have HAS := Lib.hid (h5.out.1.st.has (by omega) kA kc hok.out (by omega) (hva.out.below h5.out.1.bel) id r hr)
          clear AT2 hr
          replace hr0 := Lib.hid hr0
          go_wp2_with fail
          refine HAS.out.mono' ?_; intro y2
          have hb6 := Lib.hid (hb5.out.trans ((more_below W5 y2).mono hb5.out.size))
          clear HAS hb5 h5 z1 z2
          generalize more W5 y2 = W6 at *
          have h6 := KEEP.out W6 hb6.out
          have LEN := Lib.hid h6.out.1.st.len
          have ALL := Lib.hid (h6.out.1.st.all (by omega) h6.out.1.srt)
          have hr1 : (r = decide (0 ≤ aB)) = True := eq_true hr0.out.symm
          have hr2 : (!r == decide (0 ≤ aB)) = false := by rw [hr0.out]; cases r <;> rfl
          clear h6
          go_wp2_with fail
          refine LEN.out.mono ?_
          rintro e w' ⟨rfl, rfl⟩
          clear LEN
          go_wp2_with fail
          refine ALL.out.mono ?_
          rintro e W7 ⟨A7, c7, Q7, rfl, hX7⟩
          have hb7 := Lib.hid (hb6.out.trans (hX7.out.2.2.mono hb6.out.size))
          have h7 := KEEP.out W7 hb7.out
          have hl7 : Hid (Q7.length ≤ 1000000) := Lib.hid (by have := congrArg List.length hX7.out.2.1; rw [List.length_map, List.length_map] at this; omega)
          have r7 : RowIn entC 2 W7 A7 Q7 := by
            obtain ⟨A9, c9, e9, _, _, _, q9⟩ := rowIn_own (c := entC) (s := 2) entC_len rfl hX7.out.1.own
            injection e9 with e9
            subst e9
            exact q9
          have ENT := Lib.hid (entries_same A7 mA2 c7 mc2 Q7 Q2 W7 hl7.out hX7.out.2.1 r7 h7.out.1.row (fun q hq => (hX7.out.1.keys q hq).1) (h7.out.1.keys.below h7.out.1.bel))
          clear ALL hX7 h7 r7 hb6
          go_wp2_with fail
          refine ENT.out.mono' ?_; intro y3
          have hb8 := Lib.hid (hb7.out.trans ((more_below W7 y3).mono hb7.out.size))
          clear ENT hb7
          generalize more W7 y3 = W8 at *
          have h8 := KEEP.out W8 hb8.out
          have hfin : Hid (MSt w W8 p u (i + 1) (fun _ => False) mA2 mc2 Q2) := Lib.hid (h8.out.1.onto (Below.refl _ _) (fun g hg => hg.elim))
          clear KEEP hM h8
          go_wp2
          go_roundg (l.length - (i + 1))
          case measure => omega
          case rel => exact ⟨i + 1, mA2, mc2, Q2, rfl, by omega, by go_num, rfl, hfin⟩
    · have e : i = l.length := by omega
      subst e
      have h1' : ((l.length : Int) < (l.length : Int)) = False := eq_false (by omega)
      go_wp2
      go_ret
      exact ⟨rfl, more_of_below hbel.out⟩
theorem law_HashPlays (v0 v1 : Value) (w : World) (h0 : IsBool v0) (h1 : IsStps w v1) :
    Calls Try.prog 6 #[v0, v1] w fun e w' => e = .returned (.bool true) ∧ Below w.heap.size w w' := by
  obtain ⟨u, rfl⟩ := h0
  obtain ⟨A, ca, l, rfl, la, lc, hA, hl, ha⟩ := h1
  exact law_of (walk_HashPlays u A ca l w (by omega) hl ha)
end Go.Proofs.Ytijegkiapbmekaa
