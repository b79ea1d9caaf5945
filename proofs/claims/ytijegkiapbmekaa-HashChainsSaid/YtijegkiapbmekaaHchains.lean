/- HashChains: the walk. -/
import Derived.Test.YtijegkiapbmekaaHchP
import Derived.Test.YtijegkiapbmekaaOpenN
import Derived.Test.YtijegkiapbmekaaOpen
import Derived.Deep.LoopGhost
import Derived.Deep.CutRange
set_option maxRecDepth 100000
set_option linter.unusedVariables false
set_option linter.unusedSimpArgs false
namespace Go.Proofs.Ytijegkiapbmekaa
open Go.RowKit
attribute [local go_sem] run_frombits run_tobits more_more more_drew more_drewN more_size more_cell more_frozen run_store_float lt_c1 le_c1 lt_s1 le_s1 lt_c2 le_c2 lt_s2 le_s2 lt_c3 le_c3 lt_s3 le_s3 lt_c4 le_c4 lt_s4 le_s4 lt_c5 le_c5 lt_s5 le_s5 lt_c6 le_c6 lt_s6 le_s6 lt_c7 le_c7 lt_s7 le_s7 lt_c8 le_c8 lt_s8 le_s8 lt_c9 le_c9 lt_s9 le_s9 lt_c10 le_c10 lt_s10 le_s10 lt_c11 le_c11 lt_s11 le_s11 lt_c12 le_c12 lt_s12 le_s12 le_c0
/-- what is there of the numbers so far -/
def thereP (l : List Nat) (i : Nat) (v : Nat) : Bool := (l.take i).contains v
def boolsC (P : Nat → Bool) : Array Value := (Array.range 256).map (fun v => .bool (P v))
theorem boolsC_get (P : Nat → Bool) {v : Nat} (hv : v < 256) : (boolsC P)[v]? = some (.bool (P v)) := by
  unfold boolsC
  rw [Array.getElem?_map, Array.getElem?_range]
  simp [hv]
theorem boolsC_set (P : Nat → Bool) {v : Nat} (hv : v < 256) : (boolsC P).setIfInBounds v (.bool true) = boolsC (fun x => P x || x == v) := by
  apply Array.ext_getElem?
  intro j
  unfold boolsC
  rw [Array.getElem?_setIfInBounds, Array.getElem?_map, Array.getElem?_map, Array.getElem?_range]
  by_cases h : v = j
  · subst h; simp [hv]
  · have : (j == v) = false := by simp; omega
    by_cases h2 : j < 256
    · simp [h, h2, this]
    · simp [h, h2]
theorem thereP_zero (l : List Nat) : thereP l 0 = fun _ => false := by funext v; rfl
theorem thereP_succ {l : List Nat} {i : Nat} (h : i < l.length) : thereP l (i + 1) = fun x => thereP l i x || x == l[i] := by
  funext x
  unfold thereP
  rw [Bool.eq_iff_iff, Bool.or_eq_true, List.contains_iff_mem, List.contains_iff_mem, List.take_succ_eq_append_getElem h, List.mem_append, List.mem_singleton, beq_iff_eq]
theorem zero_bools : Try.zeroCells42 = boolsC (fun _ => false) := by kernel_rfl
set_option maxHeartbeats 4000000 in
theorem walk_HashChains (A : Option Addr) (ca : Nat) (l : List Nat) (N0 : Nat) (hN0 : N0 < 256) (hl : ∀ b ∈ l, b < 256) (w : World) (la : l.length ≤ 9223372036854775807) (ha : RowIn u8C 1 w A l) :
    Gives Try.prog 5 #[.slice A l.length ca, .int .u8 (N0 : Nat)] w (.bool true) := by
  rcases Nat.lt_or_ge 80 l.length with h80 | h80
  · have h1 : (80 : Int) < (l.length : Int) := by omega
    go_enter Try.func5, Try.ntmps5
    go_wp2_with fail
    refine (known10 _).mono' ?_; intro x
    go_wp2
    go_ret
    exact ⟨rfl, (more_of_below (by repeat (first | (with_reducible exact Below.refl _ _) | (with_reducible refine Below.drew ?_) | (with_reducible refine Below.alloc ?_ (by simp [more_size]; try omega) _) | (with_reducible refine Below.setCell ?_ (by simp [more_size]; try omega) _) | (with_reducible refine below_more ?_ _ (by simp [more_size]; try omega)))))⟩
  have h1 : ((80 : Int) < (l.length : Int)) = False := eq_false (by omega)
  clear la
  go_enter Try.func5, Try.ntmps5
  go_wp2_with fail
  refine (known10 _).mono' ?_; intro x
  go_wp2_with fail
  refine (hg_new false (w0 := w) (by repeat (first | (with_reducible exact Below.refl _ _) | (with_reducible refine Below.drew ?_) | (with_reducible refine Below.alloc ?_ (by simp [more_size]; try omega) _) | (with_reducible refine Below.setCell ?_ (by simp [more_size]; try omega) _) | (with_reducible refine below_more ?_ _ (by simp [more_size]; try omega))))).mono ?_
  rintro e w1 ⟨p, F, rfl, h0⟩
  obtain ⟨N, hN⟩ : ∃ N : Nat, N = N0 % 5 + 1 := ⟨_, rfl⟩
  have hNe : (N0 : Int) % 5 + 1 = (N : Int) := by omega
  have hNb : Hid (0 < N ∧ N < 10) := Lib.hid (by omega)
  replace hN := Lib.hid hN
  have HA := Lib.hid (show ∀ j (hj : j < l.length), ∃ b o, A = some ⟨b, o, none⟩ ∧ b < w.heap.size ∧ w.cell? ⟨b, o + j, none⟩ = some (.int .u8 (l[j] : Nat)) from fun j hj => by
    obtain ⟨b, o, e, hl, hc⟩ := ha j hj
    exact ⟨b, o, e, hl, by have := hc j hj 0 _ rfl; simpa using this⟩)
  have HL := Lib.hid hl
  have h0' : Hid (HG w (w1.alloc (.cells Try.zeroCells42 42)) p false (cnt9 (thereP l 0) : Nat) 0 [] F ∧ Cont [] (thereP l 0) N ∧ ¬ F w1.heap.size ∧ Blk (w1.alloc (.cells Try.zeroCells42 42)) w1.heap.size (boolsC (thereP l 0)) 42) := Lib.hid (by
    obtain ⟨q1, q2⟩ := h0.out
    rw [thereP_zero, cnt_none (fun v _ => rfl)]
    refine ⟨q1.below (by repeat (first | (with_reducible exact Below.refl _ _) | (with_reducible refine Below.drew ?_) | (with_reducible refine Below.alloc ?_ (by simp [more_size]; try omega) _) | (with_reducible refine Below.setCell ?_ (by simp [more_size]; try omega) _) | (with_reducible refine below_more ?_ _ (by simp [more_size]; try omega)))), Cont.nil N, fun q => by have := q1.lt _ q; omega, ?_⟩
    rw [← zero_bools]
    exact Blk.new _ _ _ rfl)
  have hgw0 : Hid (w.heap.size ≤ w1.heap.size) := Lib.hid h0.out.1.bel.size
  clear ha hl h0 h1
  go_wp2_with fail
  generalize (w1.alloc (.cells Try.zeroCells42 42)) = W0 at *
  generalize w1.heap.size = g at *
  go_loopg [8] l.length (fun k s8 W => ∃ (i : Nat) (C : List Chn) (F : Nat → Prop), k = l.length - i ∧ i ≤ l.length ∧ s8 = .int .i64 (i : Nat) ∧ Hid (HG w W p false (cnt9 (thereP l i) : Nat) i C F ∧ Cont C (thereP l i) N ∧ ¬ F g ∧ Blk W g (boolsC (thereP l i)) 42))
  case atStart => exact ⟨0, [], F, by omega, by omega, rfl, h0'⟩
  case round =>
    clear h0'
    obtain ⟨i, C, F2, rfl, hi, rfl, hI⟩ := hrel
    by_cases h1 : i < l.length
    · have h1' : (i : Int) < (l.length : Int) := by omega
      obtain ⟨Wi, rfl⟩ : ∃ Wi : World, Wi = wr := ⟨_, rfl⟩
      obtain ⟨b, o, rfl, hb, a0⟩ := HA.out i h1
      have hv := HL.out _ (List.getElem_mem h1)
      have hP := thereP_succ h1
      obtain ⟨q1, q2, q3, q4⟩ := hI.out
      have aF := Lib.hid (show ∀ W, Below w.heap.size w W → W.cell? ⟨b, o + i, none⟩ = some (.int .u8 (l[i] : Nat)) from fun W hW => (hW.cell hb).trans a0)
      have a1 := aF.out Wi q1.bel
      have hgl := q4.lt
      have hgw : w.heap.size ≤ g := hgw0.out
      have hmod : ((l[i] : Int) + 1) % (N : Int) = (((l[i] + 1) % N : Nat) : Int) := by
        rw [Int.natCast_emod]; rfl
      have INS := ch_insert q1 q2 (by omega) hNb.out hv
      rw [← hmod] at INS
      replace INS := Lib.hid INS
      clear hmod
      have GB := Lib.hid (show ∀ (w' : World), Chg F2 Wi w' → Blk w' g (boolsC (thereP l i)) 42 from fun w' hC => (hC.block g hgl q3).trans q4)
      have GT := Lib.hid (show ∀ (w' : World), Blk w' g (boolsC (thereP l i)) 42 → w'.cell? ⟨g, l[i], none⟩ = some (.bool (thereP l i l[i])) from fun w' h => (h.cell l[i]).trans (boolsC_get _ hv))
      replace hP := Lib.hid hP
      replace q3 := Lib.hid q3
      clear hI q1 q2 q4 a0
      generalize thereP l i = P at *
      generalize l[i] = v at *
      go_wp2_with fail
      refine (num10_any _ _).mono ?_; rintro e w' ⟨rfl, rfl⟩
      go_wp2_with fail
      refine INS.out.mono ?_
      rintro e w5 ⟨er, C', F', rfl, hEr, hX⟩
      obtain ⟨x1, x2, x3, x4⟩ := hX.out
      have b5 := aF.out w5 x1.bel
      have g5 := GB.out w5 x3
      have t5 := GT.out w5 g5
      have gl5 := g5.lt
      have gf5 := g5.free v
      have hfin := Lib.hid (show HG w (w5.setCell ⟨g, v, none⟩ (.bool true)) p false (cnt9 (thereP l (i + 1)) : Nat) (i + 1) C' F' ∧ Cont C' (thereP l (i + 1)) N ∧ ¬ F' g ∧ Blk (w5.setCell ⟨g, v, none⟩ (.bool true)) g (boolsC (thereP l (i + 1))) 42 from by
        have nq : ¬ F' g := fun q => (x4.2 g q).elim q3.out (fun r => by omega)
        rw [hP.out]
        refine ⟨x1.beside (Y := fun k => k = g) (Chg.set ⟨g, v, none⟩ _ rfl) (fun k hk e => nq (e ▸ hk)) (fun k e => by omega), x2, nq, ?_⟩
        rw [← boolsC_set P hv]
        exact g5.set v _)
      clear INS GB GT hX x1 x2 x3 x4 g5 aF a1
      cases hPv : P v with
      | true =>
        rw [hPv] at hEr t5
        have hEr' : (er == 0) = false := hEr
        clear hEr
        go_wp2
        go_roundg (l.length - (i + 1))
        case measure => omega
        case rel => exact ⟨i + 1, C', F', rfl, by omega, by go_num, hfin⟩
      | false =>
        rw [hPv] at hEr t5
        have hEr' : (er == 0) = true := hEr
        clear hEr
        go_wp2
        go_roundg (l.length - (i + 1))
        case measure => omega
        case rel => exact ⟨i + 1, C', F', rfl, by omega, by go_num, hfin⟩
    · have e : i = l.length := by omega
      subst e
      have h1' : ((l.length : Int) < (l.length : Int)) = False := eq_false (by omega)
      have hI2 : Hid (∃ C F, HG w wr p false (cnt9 (restP (thereP l l.length) N 0) : Nat) l.length C F ∧ Cont C (restP (thereP l l.length) N 0) N ∧ ¬ F g ∧ Blk wr g (boolsC (thereP l l.length)) 42) := Lib.hid ⟨C, F2, by rw [restP_zero]; exact hI.out⟩
      have hKl : Hid (l.length ≤ 80) := Lib.hid h80
      clear hI h1 HA HL hi
      generalize thereP l l.length = T at *
      go_wp2_with fail
      go_loopg [11] N (fun k s11 W => ∃ (r : Nat), k = N - r ∧ r ≤ N ∧ s11 = .int .i64 (r : Nat) ∧ Hid (∃ C F, HG w W p false (cnt9 (restP T N r) : Nat) l.length C F ∧ Cont C (restP T N r) N ∧ ¬ F g ∧ Blk W g (boolsC T) 42))
      case atStart => exact ⟨0, by omega, by omega, rfl, hI2⟩
      case round =>
        clear hI2
        obtain ⟨r, rfl, hr, rfl, hI⟩ := hrel
        have hN9 := hNb.out
        by_cases h1 : r < N
        · have h1' : (r : Int) < (N : Int) := by omega
          obtain ⟨Wr, rfl⟩ : ∃ Wr : World, Wr = wr := ⟨_, rfl⟩
          obtain ⟨C, F2, q1, q2, q3, q4⟩ := hI.out
          have GT := Lib.hid (show ∀ (w' : World), Below Wr.heap.size Wr w' → ∀ v, v < 256 → w'.cell? ⟨g, v, none⟩ = some (.bool (T v)) from fun w' h v hv => ((q4.below h q4.lt).cell v).trans (boolsC_get _ hv))
          have hq := Lib.hid (And.intro q1 (And.intro q2 (And.intro q3 q4)))
          clear hI q1 q2 q3 q4
          go_wp2_with fail
          go_loopg [12, 13] 256 (fun k s12 s13 W => ∃ (i : Nat) (vA : Option Addr) (vc : Nat), k = 256 - i ∧ i ≤ 256 ∧ s13 = .int .i64 (i : Nat) ∧ s12 = .slice vA (wantL T N r i).length vc ∧ Hid (W.ownsRow Wr.heap.size 2 1 (.slice vA (wantL T N r i).length vc) (wantL T N r i).length ((wantL T N r i).map idI) ∧ Below Wr.heap.size Wr W))
          case atStart => exact ⟨0, none, 0, by omega, by omega, rfl, rfl, Lib.hid ⟨World.ownsRow_nil _ _ _ _, Below.refl _ _⟩⟩
          case round =>
            obtain ⟨i, vA, vc, rfl, hi, rfl, rfl, hW⟩ := hrel
            by_cases h2 : i < 256
            · have h2' : (i : Int) < 256 := by omega
              have a1 := GT.out wr hW.out.2 i h2
              have hgl : g < wr.heap.size := Nat.lt_of_lt_of_le hq.out.2.2.2.lt hW.out.2.size
              have own := Lib.hid hW.out.1
              have hbe := Lib.hid hW.out.2
              have hL := wantL_len T N r i
              clear hW
              have hadd : IntKind.i64.wrap ((i : Int) + 1) = (i : Int) + 1 := IntWalk.i64_in _ (by omega)
              cases hT : T i with
              | false =>
                rw [hT] at a1
                have e := wantL_no (P := T) (N := N) (k := r) (i := i) (fun q => by rw [hT] at q; cases q.1)
                replace e := Lib.hid e
                clear hT
                go_wp2
                go_roundg (256 - (i + 1))
                case measure => omega
                case rel => exact ⟨i + 1, vA, vc, rfl, by omega, by go_num, by rw [e.out], Lib.hid (by rw [e.out]; exact ⟨own.out, hbe.out⟩)⟩
              | true =>
                rw [hT] at a1
                by_cases hm : (i + 1) % N = r
                · have hm2 : (((i : Int) + 1) % (N : Int) == (r : Int)) = true := by
                    have : ((i : Int) + 1) % (N : Int) = (((i + 1) % N : Nat) : Int) := by rw [Int.natCast_emod]; rfl
                    rw [this, hm]; simp
                  have e := wantL_yes (P := T) (N := N) (k := r) (i := i) hT hm
                  replace e := Lib.hid e
                  clear hT hm
                  obtain ⟨i0, hi0, hz0, hz1, hz2⟩ := info_parts info_i64
                  have news := Lib.hid (show ∀ ad, some (⟨wr.heap.size, 0, none⟩ : Addr) = some ad → ∀ j u, [idI ((i : Int) + 1)][j]? = some u → (wr.alloc (.cells #[.int .i64 ((i : Int) + 1)] 2)).cell? (ad.add j) = some u from fun ad e j u hu => by
                    cases e
                    exact cells_at wr [idI ((i : Int) + 1)] _ rfl j u hu)
                  have ownA := Lib.hid (own.out.alloc (.cells #[.int .i64 ((i : Int) + 1)] 2))
                  have hsz : Hid (Wr.heap.size ≤ (wr.alloc (.cells #[.int .i64 ((i : Int) + 1)] 2)).heap.size) := Lib.hid (by have := hbe.out.size; simp; omega)
                  go_wp2_with (first
                    | (at_builtin; refine wpList_append_row rfl _ _ 34 rfl Wr.heap.size 2 i0 _ 1 8 Try.underlying34 hi0 hz0 hz1 hz2 rfl (by decide) (.slice vA (wantL T N r i).length vc) (wantL T N r i).length ((wantL T N r i).map idI) rfl ownA.out (some ⟨wr.heap.size, 0, none⟩) 1 1 [idI ((i : Int) + 1)] rfl (fun e => by cases e) rfl news.out (fun u hu => by simp at hu; subst hu; rfl) (by unfold maxLen; omega) (by omega) hsz.out ?_; intro v2 W2 own2 grow2 loc2)
                    | fail)
                  obtain ⟨vA2, vc2, rfl⟩ := own_form9 own2
                  have hfin := Lib.hid (show W2.ownsRow Wr.heap.size 2 1 (.slice vA2 (wantL T N r (i + 1)).length vc2) (wantL T N r (i + 1)).length ((wantL T N r (i + 1)).map idI) ∧ Below Wr.heap.size Wr W2 from by
                    refine ⟨by rw [e.out]; simpa using own2, ?_⟩
                    exact (hbe.out.trans ((show Below wr.heap.size wr (wr.alloc (.cells #[.int .i64 ((i : Int) + 1)] 2)) from (by repeat (first | (with_reducible exact Below.refl _ _) | (with_reducible refine Below.drew ?_) | (with_reducible refine Below.alloc ?_ (by simp [more_size]; try omega) _) | (with_reducible refine Below.setCell ?_ (by simp [more_size]; try omega) _) | (with_reducible refine below_more ?_ _ (by simp [more_size]; try omega))))).mono hbe.out.size)).trans (grown_below grow2 hsz.out (fun g2 e2 => own_ge own.out g2 e2))) 
                  have el : (wantL T N r i).length + 1 = (wantL T N r (i + 1)).length := by rw [e.out]; simp
                  rw [el]
                  clear own2 grow2 loc2 ownA news own hbe a1
                  go_wp2
                  go_roundg (256 - (i + 1))
                  case measure => omega
                  case rel => exact ⟨i + 1, vA2, vc2, rfl, by omega, by go_num, rfl, hfin⟩
                · have hm2 : (((i : Int) + 1) % (N : Int) == (r : Int)) = false := by
                    have : ((i : Int) + 1) % (N : Int) = (((i + 1) % N : Nat) : Int) := by rw [Int.natCast_emod]; rfl
                    rw [this]; simp; omega
                  have e := wantL_no (P := T) (N := N) (k := r) (i := i) (fun q => hm q.2)
                  replace e := Lib.hid e
                  clear hT hm
                  go_wp2
                  go_roundg (256 - (i + 1))
                  case measure => omega
                  case rel => exact ⟨i + 1, vA, vc, rfl, by omega, by go_num, by rw [e.out], Lib.hid (by rw [e.out]; exact ⟨own.out, hbe.out⟩)⟩
            · have e : i = 256 := by omega
              subst e
              have h2' : ((256 : Int) < 256) = False := eq_false (by omega)
              obtain ⟨q1, q2, q3, q4⟩ := hq.out
              have k1 := q1.below hW.out.2
              have FD := ch_find k1 q2 (by omega) r (by omega)
              rw [want_rest] at FD
              replace FD := Lib.hid FD
              have hL := wantL_len T N r 256
              have hvw : Hid (∀ g2, (Value.slice vA (wantL T N r 256).length vc).ownBlock = some g2 → Wr.heap.size ≤ g2) := Lib.hid (fun g2 e2 => own_ge hW.out.1 g2 e2)
              have nF2 : Hid (∀ g2, Wr.heap.size ≤ g2 → ¬ F2 g2) := Lib.hid (fun g2 h c => by have := q1.lt _ c; omega)
              have rB : RowIn intC 1 wr vA (wantL T N r 256) := by
                have e1 : wr.ownsRow Wr.heap.size 2 1 (.slice vA (wantL T N r 256).length vc) (wantL T N r 256).length (rowC intC (wantL T N r 256)) := by rw [rowC_int]; exact hW.out.1
                obtain ⟨A9, c9, e9, _, _, _, q9⟩ := rowIn_own (c := intC) (s := 1) (fun _ => rfl) rfl e1
                injection e9 with e9
                subst e9
                exact q9
              have hst := Lib.hid (show HG w wr p false (cnt9 (leftP T N r 0) : Nat) l.length C F2 ∧ Cont C (leftP T N r 0) N ∧ ¬ F2 g ∧ Blk wr g (boolsC T) 42 ∧ wr.ownsRow 0 2 1 (.slice vA (wantL T N r 256).length vc) (wantL T N r 256).length ((wantL T N r 256).map idI) from by
                rw [leftP_zero]
                exact ⟨k1, q2, q3, q4.below hW.out.2 q4.lt, own_lower hW.out.1 (Nat.zero_le _)⟩)
              have hrB := Lib.hid rB
              clear q1 q2 q3 q4 k1 hW hq GT rB hi
              go_wp2_with fail
              refine (num10_any _ _).mono ?_; rintro e w' ⟨rfl, rfl⟩
              go_wp2_with fail
              refine FD.out.mono ?_
              rintro e w5 ⟨A5, c5, rfl, hX⟩
              have ID := Lib.hid (ids_same A5 vA c5 vc (wantL T N r 256) w5 (by omega) hX.out.1 (hrB.out.below hX.out.2))
              have hb5 := Lib.hid hX.out.2
              clear FD hX hrB
              go_wp2_with fail
              refine ID.out.mono' ?_; intro y
              have hb6 := Lib.hid (hb5.out.trans ((more_below w5 y).mono hb5.out.size))
              have hst6 := Lib.hid (show HG w (more w5 y) p false (cnt9 (leftP T N r 0) : Nat) l.length C F2 ∧ Cont C (leftP T N r 0) N ∧ ¬ F2 g ∧ Blk (more w5 y) g (boolsC T) 42 ∧ (∀ g2, (Value.slice vA (wantL T N r 256).length vc).ownBlock = some g2 → ¬ F2 g2) ∧ (more w5 y).ownsRow 0 2 1 (.slice vA (wantL T N r 256).length vc) (wantL T N r 256).length ((wantL T N r 256).map idI) from by
                obtain ⟨z1, z2, z3, z4, z5⟩ := hst.out
                exact ⟨z1.below hb6.out, z2, z3, z4.below hb6.out z4.lt, fun g2 e2 => nF2.out g2 (hvw.out g2 e2), own_same z5 (fun g2 e2 => hb6.out.block g2 (own_lt9 z5 g2 e2))⟩)
              clear ID hb5 hb6 hst nF2 hvw
              generalize more w5 y = w6 at *
              go_wp2_with fail
              go_loopg [14] (wantL T N r 256).length (fun k s14 W => ∃ (j : Nat), k = (wantL T N r 256).length - j ∧ j ≤ (wantL T N r 256).length ∧ s14 = .int .i64 (j : Nat) ∧ Hid (∃ C F, HG w W p false (cnt9 (leftP T N r j) : Nat) l.length C F ∧ Cont C (leftP T N r j) N ∧ ¬ F g ∧ Blk W g (boolsC T) 42 ∧ (∀ g2, (Value.slice vA (wantL T N r 256).length vc).ownBlock = some g2 → ¬ F g2) ∧ W.ownsRow 0 2 1 (.slice vA (wantL T N r 256).length vc) (wantL T N r 256).length ((wantL T N r 256).map idI)))
              case atStart => exact ⟨0, by omega, by omega, rfl, Lib.hid ⟨C, F2, hst6.out⟩⟩
              case round =>
                clear hst6
                obtain ⟨j, rfl, hj, rfl, hJ⟩ := hrel
                by_cases h3 : j < (wantL T N r 256).length
                · have h3' : (j : Int) < ((wantL T N r 256).length : Int) := by omega
                  obtain ⟨Wj, rfl⟩ : ∃ Wj : World, Wj = wr := ⟨_, rfl⟩
                  obtain ⟨C3, F3, z1, z2, z3, z4, z5, z6⟩ := hJ.out
                  obtain ⟨v, _, _, _, hv⟩ := wantL_mem.1 (List.getElem_mem h3)
                  obtain ⟨v1, v2, v3, v4⟩ := leftP_there h3 hv
                  obtain ⟨gb, rfl⟩ : ∃ gb, vA = some ⟨gb, 0, none⟩ := by
                    rcases own_form1 z6 with ⟨_, q, _⟩ | q
                    · omega
                    · exact q
                  have cj : ∀ W' : World, W'.heap[gb]? = Wj.heap[gb]? → W'.cell? ⟨gb, j, none⟩ = some (.int .i64 ((v : Int) + 1)) := fun W' hW => by
                    refine (World.cell?_of_block (a := ⟨gb, j, none⟩) hW).trans ?_
                    refine (own_at z6).2.2.2.2.1 j _ ?_
                    rw [List.getElem?_map, List.getElem?_eq_getElem h3, hv]; rfl
                  have hgbl : gb < Wj.heap.size := (own_at z6).2.2.2.1
                  have ER := ch_erase (W := Wj.drew) (z1.below (by repeat (first | (with_reducible exact Below.refl _ _) | (with_reducible refine Below.drew ?_) | (with_reducible refine Below.alloc ?_ (by simp [more_size]; try omega) _) | (with_reducible refine Below.setCell ?_ (by simp [more_size]; try omega) _) | (with_reducible refine below_more ?_ _ (by simp [more_size]; try omega))))) z2 (by omega) hN9 v1 v4
                  rw [v3] at ER
                  have e4 := leftP_succ h3 hv
                  rw [← e4] at ER
                  have hszd : Wj.drew.heap.size = Wj.heap.size := rfl
                  rw [hszd] at ER
                  clear hszd
                  have hcomm : Wj.drew.alloc (numO (r : Nat)) = (Wj.alloc (numO (r : Nat))).drew := rfl
                  rw [hcomm] at ER
                  clear hcomm
                  have c0 : Wj.drew.cell? ⟨gb, j, none⟩ = some (.int .i64 ((v : Int) + 1)) := cj _ rfl
                  have c1 : ((Wj.alloc (numO (r : Nat))).drew).cell? ⟨gb, j, none⟩ = some (.int .i64 ((v : Int) + 1)) := cj _ ((show Below Wj.heap.size Wj ((Wj.alloc (numO (r : Nat))).drew) from (by repeat (first | (with_reducible exact Below.refl _ _) | (with_reducible refine Below.drew ?_) | (with_reducible refine Below.alloc ?_ (by simp [more_size]; try omega) _) | (with_reducible refine Below.setCell ?_ (by simp [more_size]; try omega) _) | (with_reducible refine below_more ?_ _ (by simp [more_size]; try omega))))).block gb hgbl)
                  have K3 := Lib.hid (show ∀ (w' : World) C' F', (HG w w' p false (cnt9 (leftP T N r (j + 1)) : Nat) l.length C' F' ∧ Cont C' (leftP T N r (j + 1)) N ∧ Chg F3 Wj.drew w' ∧ Grew Wj.drew F3 F') → Hid (∃ C F, HG w w' p false (cnt9 (leftP T N r (j + 1)) : Nat) l.length C F ∧ Cont C (leftP T N r (j + 1)) N ∧ ¬ F g ∧ Blk w' g (boolsC T) 42 ∧ (∀ g2, (Value.slice (some ⟨gb, 0, none⟩) (wantL T N r 256).length vc).ownBlock = some g2 → ¬ F g2) ∧ w'.ownsRow 0 2 1 (.slice (some ⟨gb, 0, none⟩) (wantL T N r 256).length vc) (wantL T N r 256).length ((wantL T N r 256).map idI)) ∧ w'.cell? ⟨gb, j, none⟩ = some (.int .i64 ((v : Int) + 1)) from fun w' C' F' ⟨y1, y2, y3, y4⟩ => by
                    have hgl := z4.lt
                    have nb := z5 gb rfl
                    have hgbk : w'.heap[gb]? = Wj.heap[gb]? := y3.block gb hgbl nb
                    refine ⟨Lib.hid ⟨C', F', y1, y2, fun q => (y4.2 g q).elim z3 (fun q2 => by have : Wj.heap.size ≤ g := q2; omega), (y3.block g hgl z3).trans z4, fun g2 e2 q => ?_, own_same z6 (fun g2 e2 => ?_)⟩, cj _ hgbk⟩
                    · injection e2 with e2
                      subst e2
                      exact (y4.2 _ q).elim nb (fun q2 => by have : Wj.heap.size ≤ gb := q2; omega)
                    · injection e2 with e2
                      subst e2
                      exact hgbk)
                  replace ER := Lib.hid ER
                  clear hJ z1 z2 z3 z4 z5 z6 v2 v3 v4 e4 cj hv
                  go_upto_region 30 with fail
                  go_region_held3 (fun W' => W'.cell? ⟨gb, j, none⟩ = some (.int .i64 ((v : Int) + 1))) (first | assumption | exact c0 | exact c1) ((first
                    | (go_at_call 16; with_reducible refine Calls.mono (num10_any _ _) ?_; rintro e w' ⟨rfl, rfl⟩)
                    | (go_at_call 18; with_reducible refine Calls.mono (ER.out) ?_; rintro e w7 ⟨C', F', rfl, hX⟩; obtain ⟨hX2, c7⟩ := K3.out _ _ _ hX.out)))
                  all_goals
                    clear ER K3 c0 c1 c7
                    go_wp2
                    go_roundg ((wantL T N r 256).length - (j + 1))
                    case measure => omega
                    case rel => exact ⟨j + 1, rfl, by omega, by go_num, hX2⟩
                · have e : j = (wantL T N r 256).length := by omega
                  subst e
                  have h3' : (((wantL T N r 256).length : Int) < ((wantL T N r 256).length : Int)) = False := eq_false (by omega)
                  obtain ⟨C3, F3, z1, z2, z3, z4, z5, z6⟩ := hJ.out
                  rw [cnt_congr (leftP_end T N r)] at z1
                  have z2' := z2.congr (leftP_end T N r)
                  have FD2 := ch_find z1 z2' (by omega) r (by omega)
                  rw [want_gone] at FD2
                  replace FD2 := Lib.hid FD2
                  have hfin := Lib.hid (show ∀ w', Below wr.heap.size wr w' → Hid (∃ C F, HG w w' p false (cnt9 (restP T N (r + 1)) : Nat) l.length C F ∧ Cont C (restP T N (r + 1)) N ∧ ¬ F g ∧ Blk w' g (boolsC T) 42) from fun w' hb => Lib.hid ⟨C3, F3, z1.below hb, z2', z3, z4.below hb z4.lt⟩)
                  clear hJ z1 z2 z2' z3 z4 z5 z6 h3 hj
                  go_wp2_with fail
                  refine (num10_any _ _).mono ?_; rintro e w' ⟨rfl, rfl⟩
                  go_wp2_with fail
                  refine FD2.out.mono ?_
                  rintro e w8 ⟨A8, c8, rfl, hX⟩
                  have hfin2 := hfin.out w8 hX.out.2
                  clear FD2 hX hfin
                  go_wp2
                  go_roundg (N - (r + 1))
                  case measure => omega
                  case rel => exact ⟨r + 1, rfl, by omega, by go_num, hfin2⟩
        · have e : r = N := by omega
          subst e
          have h1' : ((r : Int) < (r : Int)) = False := eq_false (by omega)
          obtain ⟨C, F2, q1, q2, q3, q4⟩ := hI.out
          have hz := cnt_none (P := restP T r r) (fun v _ => restP_end T hN9.1 v)
          rw [hz] at q1
          have LN := Lib.hid (hg_len q1)
          have AL := Lib.hid (ch_all q1 q2 (fun v _ => restP_end T hN9.1 v))
          have hbl := Lib.hid q1.bel
          clear hI q1 q2 q3 q4 hz h1
          go_wp2_with fail
          refine LN.out.mono ?_; rintro e w' ⟨rfl, rfl⟩
          go_wp2_with fail
          refine AL.out.mono' ?_; intro y
          have hfin := Lib.hid (hbl.out.trans ((more_below wr y).mono hbl.out.size))
          clear hbl
          go_wp2
          go_ret
          exact ⟨rfl, more_of_below hfin.out⟩
theorem law_HashChains (v0 v1 : Value) (w : World) (h0 : IsRow u8C 1 (fun n => n < 256) w v0) (h1 : IsU8 v1) :
    Calls Try.prog 5 #[v0, v1] w fun e w' => e = .returned (.bool true) ∧ Below w.heap.size w w' := by
  obtain ⟨A, ca, l, rfl, la, lc, hA, hl, ha⟩ := h0
  obtain ⟨n, rfl, hn⟩ := h1
  exact law_of (walk_HashChains A ca l n hn hl w (by omega) ha)
end Go.Proofs.Ytijegkiapbmekaa
