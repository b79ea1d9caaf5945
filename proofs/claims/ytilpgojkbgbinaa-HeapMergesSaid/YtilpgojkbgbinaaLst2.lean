/- heaps.Least of strings. -/
import Derived.Test.YtilpgojkbgbinaaLst
import Derived.RegionTactic
import Derived.BigRegion
import Derived.ChangeAlike
import Derived.Deep.AppendLies
import Derived.Deep.RegionHeld3
import Derived.Deep.RegionLaw
set_option maxRecDepth 100000
set_option linter.unusedVariables false
set_option linter.unusedSimpArgs false
namespace Go.Proofs.Ytilpgojkbgbinaa
open Go.RowKit
attribute [local go_sem] run_frombits run_tobits more_more more_drew more_drewN more_size more_cell more_frozen run_store_float lt_c1 le_c1 lt_s1 le_s1 lt_c2 le_c2 lt_s2 le_s2 lt_c3 le_c3 lt_s3 le_s3 lt_c4 le_c4 lt_s4 le_s4 lt_c5 le_c5 lt_s5 le_s5 lt_c6 le_c6 lt_s6 le_s6 lt_c7 le_c7 lt_s7 le_s7 lt_c8 le_c8 lt_s8 le_s8 lt_c9 le_c9 lt_s9 le_s9 lt_c10 le_c10 lt_s10 le_s10 lt_c11 le_c11 lt_s11 le_s11 lt_c12 le_c12 lt_s12 le_s12 le_c0 run_ta_It2
def strC (x : ByteArray) : List Value := [.string x]
theorem strC_len (x : ByteArray) : (strC x).length = 1 := rfl
theorem strC_one (x : ByteArray) : ∀ u ∈ strC x, u.oneCell' = true := by
  intro u hu; simp [strC] at hu; rcases hu with rfl; rfl
theorem info_str : (Try.prog.info? 9).map (fun i => (i.zero, i.size, i.bytes)) = some (some (.string ⟨#[]⟩), 1, 16) := by kernel_rfl
theorem run_field_It2 (a : ByteArray) (c d : Int) (w : World) : (Instr.field 164 (.agg #[.string a, .int .i64 c, .int .i64 d]) 0).run Try.prog w = .ok (.string a) w := by kernel_rfl
attribute [local go_sem] run_field_It2
set_option maxHeartbeats 4000000 in
theorem least_It2 {lt : ByteArray → ByteArray → Bool} (hlt : Swo lt) {fid : FuncId} {caps : Array Value} (hT : Tells (fun n : ByteArray => .string n) lt fid caps []) (A : Option Addr) (cap : Nat) (l : List ByteArray) (n : Int) (w : World) (hl : l.length ≤ 100000) (ha : RowIn strC 1 w A l)
    (S : List (It ByteArray)) (hS : S.Perm (itsF 0 l)) (hSS : Sorted (ltS lt) S) :
    Calls Try.prog 52 #[.slice A l.length cap, .int .i64 n, .func (.func fid) #[] caps] w fun e w' => ∃ v, e = .returned v ∧ w'.ownsRow w.heap.size 9 1 v (min n.toNat l.length) (rowC strC ((S.take n.toNat).map (·.v))) ∧ Below w.heap.size w w' := by
  have ST := fun W => stable_It2 fid caps W
  go_enter Try.func52, Try.ntmps52
  go_wp2_with fail
  refine (ST _).mono ?_; rintro e w1 ⟨rfl, bt, rfl⟩
  go_wp2
  have hW0 : Hid (PIt2 162 (.func (.func 115) #[] #[.pointer (some ⟨w.heap.size, 0, none⟩)]) (w.heap.size + 1) [(w.heap.size, .cells #[.func (.func fid) #[] caps] bt (0, 0))] ((w.alloc (.cells #[.func (.func fid) #[] caps] bt)).alloc (.cells #[.slice none 0 0, .func (.func 115) #[] #[.pointer (some ⟨w.heap.size, 0, none⟩)]] 162)) none []) := Lib.hid (PileS.new w bt _ _ _ _ _ _ rfl rfl)
  have hB0 : Hid (Below w.heap.size w ((w.alloc (.cells #[.func (.func fid) #[] caps] bt)).alloc (.cells #[.slice none 0 0, .func (.func 115) #[] #[.pointer (some ⟨w.heap.size, 0, none⟩)]] 162))) := Lib.hid (by repeat (first | (with_reducible exact Below.refl _ _) | (with_reducible refine Below.drew ?_) | (with_reducible refine Below.alloc ?_ (by simp [more_size]; try omega) _) | (with_reducible refine Below.setCell ?_ (by simp [more_size]; try omega) _) | (with_reducible refine below_more ?_ _ (by simp [more_size]; try omega))))
  generalize hp : w.heap.size + 1 = p at *
  generalize hb : w.heap.size = b at *
  have haH := Lib.hid ha
  clear ha ST
  go_loopw [8, 9, 17] (fun t8 t9 t17 wr => ∃ (k : Nat) (a : Option Nat), t17 = .int .i64 k ∧ k ≤ l.length ∧ Hid (PIt2 162 (.func (.func 115) #[] #[.pointer (some ⟨b, 0, none⟩)]) p [(b, .cells #[.func (.func fid) #[] caps] bt (0, 0))] wr a (itsF 0 (l.take k))) ∧ Hid (∀ g, a = some g → b ≤ g) ∧ Hid (Below b w wr)) (fun _ _ t _ => l.length - (intOf t).toNat)
  case atStart =>
    exact ⟨0, none, rfl, by omega, by simpa [itsF] using hW0, Lib.hid (fun g e => by cases e), hB0⟩
  case round =>
    obtain ⟨k, a, rfl, hk, hP, hfa, hB⟩ := hrel
    clear hW0 hB0
    rcases Nat.lt_or_ge k l.length with hkl | hkl
    · obtain ⟨b1, off, rfl, hb1, hcells⟩ := haH.out k hkl
      have x0 := hcells k hkl 0 _ rfl
      have hk' : (k : Int) < (l.length : Int) := by omega
      have bB := hB.out
      have y0 := (bB.cell (p := ⟨b1, off + k * 1 + 0, none⟩) (show b1 < b by omega)).trans x0
      rw [Nat.add_zero, Nat.mul_one] at y0
      have e := itsF_take 0 l k hkl
      generalize l[k] = x at *
      clear hcells x0
      replace e := Lib.hid e
      clear bB
      obtain ⟨i0, hi0, hi1, hi2, hi3⟩ := info_parts info_It2
      have hP1 := hP.out
      have hB1 := hB
      have H := hP1
      obtain ⟨h1, h2, ⟨v, h3, h4, h5⟩, h6⟩ := hP1
      have hlk : (itsF 0 (l.take k)).length = k := by rw [itsF_length, List.length_take]; omega
      have fin := Lib.hid (fun (w1 : World) (g cap' : Nat) (grow : (wr.alloc (.cells #[.string x, .int .i64 0, .int .i64 k] 164)).grownBy w1 v.ownBlock) (hat : v.ownBlock = some g ∨ wr.heap.size ≤ g) own => H.pushed (W0 := (wr.alloc (.cells #[.string x, .int .i64 0, .int .i64 k] 164))) (g := g) (cap := cap') (x := ⟨x, 0, k⟩) (by rw [hlk]; omega) (by repeat (first | (with_reducible exact Below.refl _ _) | (with_reducible refine Below.drew ?_) | (with_reducible refine Below.alloc ?_ (by simp [more_size]; try omega) _) | (with_reducible refine Below.setCell ?_ (by simp [more_size]; try omega) _) | (with_reducible refine below_more ?_ _ (by simp [more_size]; try omega)))) (h4 ▸ grow) (by rw [← h4]; exact hat) own)
      have hpW := h3.lt
      have c0w : wr.cell? ⟨p, 0, none⟩ = some v := h3.cell 0
      have f0w := h3.free 0
      have H5 := Lib.hid h5
      have hap : ∀ w1, (wr.alloc (.cells #[.string x, .int .i64 0, .int .i64 k] 164)).grownBy w1 v.ownBlock → w1.cell? ⟨p, 0, none⟩ = some v ∧ w1.frozen? ⟨p, 0, none⟩ = false := fun w1 hg => by
        have e := hg.block p (by simp; omega) (by rw [h4]; exact Ne.symm h2)
        have e2 : w1.heap[p]? = wr.heap[p]? := e.trans (Below.heap_alloc wr _ p hpW)
        exact ⟨(World.cell?_of_block (w := wr) (a := ⟨p, 0, none⟩) e2).trans c0w, (World.frozen?_of_block (w := wr) (a := ⟨p, 0, none⟩) e2).trans f0w⟩
      have KB := Lib.hid hap
      clear h5 hap h1 h2 h3 h4 h6 H hS hSS hT hlt hP hB
      rw [hlk] at H5 fin
      go_wp2_with (at_builtin; refine wpList_append_own_at _ rfl _ _ 160 rfl 0 164 i0 _ 3 32 Try.underlying160 hi0 hi1 hi2 hi3 rfl (by decide) v k (rowC cIt2 (itsF 0 (l.take k))) rfl (own_below H5.out (by repeat (first | (with_reducible exact Below.refl _ _) | (with_reducible refine Below.drew ?_) | (with_reducible refine Below.alloc ?_ (by simp [more_size]; try omega) _) | (with_reducible refine Below.setCell ?_ (by simp [more_size]; try omega) _) | (with_reducible refine below_more ?_ _ (by simp [more_size]; try omega))))) _ 1 1 [.string x, .int .i64 0, .int .i64 k] rfl rfl (cells_at _ [.string x, .int .i64 0, .int .i64 k] _ rfl) (cIt2_one ⟨x, 0, k⟩) (by unfold maxLen; omega) (by omega) (Nat.zero_le _) ?_; intro v1 w1 own1 grow1 _ hat; obtain ⟨g, cap', rfl⟩ := own_some own1 (by omega); obtain ⟨d0, e0⟩ := KB.out w1 grow1)
      obtain ⟨a', f1, f2, f3⟩ := fin.out w1 g cap' grow1 (hat.elim (fun h => .inl (h ▸ rfl)) (fun h => .inr (by simp [Value.ownBlock] at h; omega))) own1
      have f1' := e.out ▸ f1
      replace f1' := Lib.hid f1'
      replace f2 := Lib.hid f2
      replace f3 := Lib.hid f3
      clear f1 fin own1 grow1 hat KB H5 d0 e0 c0w f0w
      go_wp2
      refine ⟨⟨k + 1, a', by go_num, by omega, f1', Lib.hid (fresh_ge (w' := wr) f2.out (by have := hB1.out.size; omega) hfa.out), Lib.hid (hB1.out.trans (f3.out.below (by have := hB1.out.size; omega) (by omega) hfa.out))⟩, by simp [intOf]; omega⟩
    · obtain rfl : k = l.length := by omega
      have hP1 := hP.out
      rw [List.take_length] at hP1
      have hPile := pile_It2 (p := p) (pT := 162) (tells_It2 hT b bt)
      have IA := Lib.hid (init_any hPile a _ wr hP1)
      have IH := Lib.hid (init_isHeap (ltS_swo hlt) ⟨⟨#[]⟩, 0, 0⟩ (itsF 0 l))
      have IP := Lib.hid ((initL_perm (lt := ltS lt) ⟨⟨#[]⟩, 0, 0⟩ ((itsF 0 l).length / 2) (itsF 0 l) (by omega)).trans hS.symm)
      replace hPile := Lib.hid hPile
      have hpl : p < wr.heap.size := hP1.p_lt
      have hSl : S.length = l.length := by rw [hS.length_eq, itsF_length]
      replace hS := Lib.hid hS
      replace hSS := Lib.hid hSS
      obtain ⟨i0, hi, hz0, hz1, hz2⟩ := info_parts info_str
      clear hP hP1 hT haH
      go_wp2_with fail
      refine IA.out.mono ?_; rintro e w2 ⟨rfl, hS2, hK2⟩
      have own0 := Lib.hid (World.ownsRow_nil w2 (p + 1) 9 1)
      have hB2 := Lib.hid (hB.out.trans (hK2.below (B := b) (by have := hB.out.size; omega) (by omega) hfa.out))
      have hpl2 : p < w2.heap.size := Nat.lt_of_lt_of_le hpl hK2.size
      replace hS2 := Lib.hid hS2
      clear IA hK2 hB
      go_wp2
      go_loopw [10] (fun t10 wr2 => ∃ (k : Nat) (A2 : Option Addr) (cap2 : Nat) (l' : List (It ByteArray)), t10 = .slice A2 k cap2 ∧ k ≤ l.length ∧ k ≤ n.toNat ∧ p < wr2.heap.size ∧ Hid (PIt2 162 (.func (.func 115) #[] #[.pointer (some ⟨b, 0, none⟩)]) p [(b, .cells #[.func (.func fid) #[] caps] bt (0, 0))] wr2 a l') ∧ Hid (l'.Perm (S.drop k)) ∧ Hid (IsHeap (ltS lt) ⟨⟨#[]⟩, 0, 0⟩ l') ∧ Hid (wr2.ownsRow (p + 1) 9 1 (.slice A2 k cap2) k (rowC strC ((S.take k).map (·.v)))) ∧ Hid (∀ g, (Value.slice A2 k cap2).ownBlock = some g → some g ≠ a) ∧ Hid (Below b w wr2)) (fun t _ => match t with | .slice _ k _ => l.length - k | _ => 0)
      case atStart =>
        exact ⟨0, none, 0, _, rfl, by omega, by omega, hpl2, hS2, IP, IH, own0, Lib.hid (fun g e => by simp [Value.ownBlock] at e), hB2⟩
      case round =>
        obtain ⟨k, A2, cap2, l', rfl, hk1, hk2, hpl3, hP, hperm, hheap, own, hsep, hB⟩ := hrel
        clear IP IH own0 hB2 hS2 hpl hpl2
        have hlen : l'.length = l.length - k := by rw [hperm.out.length_eq, List.length_drop]; omega
        have LN := hPile.out.len wr a l' hP.out
        rw [hlen] at LN
        replace LN := Lib.hid LN
        rcases Nat.lt_or_ge k l.length with hkl | hkl
        · have hlt0 : (0 : Int) < ((l.length - k : Nat) : Int) := by omega
          generalize hm : l.length - k = m at *
          rcases Nat.lt_or_ge k n.toNat with hkn | hkn
          · have hkn' : (k : Int) < n := by omega
            have PA := pop_at (ltS_swo hlt) ⟨⟨#[]⟩, 0, 0⟩ l' S k (by omega) hperm.out hSS.out hheap.out
            have PO := pop_any hPile.out a l' (by omega) wr hP.out
            rw [PA.1] at PO
            have hmap : rowC strC ((S.take (k + 1)).map (·.v)) = rowC strC ((S.take k).map (·.v)) ++ strC (S[k]'(by omega)).v := by
              rw [List.take_succ_eq_append_getElem (by omega), List.map_append, rowC_append, List.map_singleton, rowC_single]
            generalize S[k]'(by omega) = y at *
            obtain ⟨yn, yl, ya⟩ := y
            have hperm' := Lib.hid PA.2.1
            have hheap' := Lib.hid PA.2.2
            replace PO := Lib.hid (show Calls Try.prog 90 #[.iface 157 (.pointer (some ⟨p, 0, none⟩))] wr (fun e w' => e = .returned (.iface 164 (.agg #[.string yn, .int .i64 yl, .int .i64 ya])) ∧ _) from PO)
            replace hmap := Lib.hid hmap
            clear PA hperm hheap hlen
            have halt := Lib.hid hP.out.a_lt
            go_wp2_with fail
            refine LN.out.mono ?_; rintro e w' ⟨rfl, rfl⟩
            go_wp2_with fail
            refine PO.out.mono ?_; rintro e w3 ⟨rfl, hS3, hK3⟩
            have own3 := Lib.hid (hK3.own own.out fun g hg => ⟨by have := own_ge own.out g hg; omega, hsep.out g hg⟩)
            have hB3 := Lib.hid (hB.out.trans (hK3.below (B := b) (by omega) (by omega) hfa.out))
            have hpl3' : p < w3.heap.size := Nat.lt_of_lt_of_le hpl3 hK3.size
            have halt3 := Lib.hid (fun g hg => Nat.lt_of_lt_of_le (halt.out g hg) hK3.size)
            replace hS3 := Lib.hid hS3
            clear hK3 own hP PO LN hB halt
            go_wp2_with (at_builtin; refine wpList_append_own_at _ rfl _ _ 84 rfl (p + 1) 9 i0 _ 1 16 Try.underlying84 hi hz0 hz1 hz2 rfl (by decide) (.slice A2 k cap2) k _ rfl (own_below own3.out (by repeat (first | (with_reducible exact Below.refl _ _) | (with_reducible refine Below.drew ?_) | (with_reducible refine Below.alloc ?_ (by simp [more_size]; try omega) _) | (with_reducible refine Below.setCell ?_ (by simp [more_size]; try omega) _) | (with_reducible refine below_more ?_ _ (by simp [more_size]; try omega))))) _ 1 1 (strC yn) rfl rfl (cells_at _ (strC yn) _ rfl) (strC_one _) (by unfold maxLen; omega) (by omega) (by simp; omega) ?_; intro v4 w4 own4 grow4 _ hat4)
            rw [← hmap.out] at own4
            have grow4' : (w3.alloc (.cells #[.string yn] 9)).grownBy w4 (Value.slice A2 k cap2).ownBlock := grow4
            have sep4 := Lib.hid (show ∀ g, v4.ownBlock = some g → some g ≠ a from fun g hg e => by
              rcases hat4 with h | h
              · exact hsep.out g (h ▸ hg) e
              · rw [hg] at h; injection h with h; have := halt3.out g e.symm; simp at h; omega)
            have hge := own_ge own3.out
            have hS4 := Lib.hid ((hS3.out.alloc (.cells #[.string yn] 9)).beside grow4' (fun e => by have := hge p e.symm; omega) (fun hn e => by
                cases ha : a with
                | none => exact hn ha
                | some g => exact hsep.out g (e ▸ ha) ha.symm) (fun b' o hm e => by
                simp only [List.mem_singleton, Prod.mk.injEq] at hm
                have := hge b' e.symm; omega))
            have hB4 := Lib.hid (hB3.out.trans (Below.grown (Below.alloc (Below.refl b w3) (by have := hB3.out.size; omega) _) grow4' (by simp; have := hB3.out.size; omega) (fun g hg => by have := hge g hg; omega)))
            have hpl4 : p < w4.heap.size := Nat.lt_of_lt_of_le (by simp; omega) grow4'.size
            obtain ⟨A4, cap4, rfl, _, _, _, _⟩ := own_open own4
            replace own4 := Lib.hid own4
            clear hS3 hB3 own3 grow4 grow4' hat4 hsep
            go_wp2
            refine ⟨⟨k + 1, A4, cap4, _, rfl, by omega, by omega, hpl4, hS4, hperm', hheap', own4, sep4, hB4⟩, by simp; omega⟩
          · have hkn' : ¬ (k : Int) < n := by omega
            have F := own_base (B := w.heap.size) own.out (by omega)
            have e1 : n.toNat = k := by omega
            rw [← e1] at F
            have e2 : min n.toNat l.length = n.toNat := by omega
            go_wp2_with fail
            refine LN.out.mono ?_; rintro e w' ⟨rfl, rfl⟩
            go_wp2
            go_ret
            refine ⟨_, rfl, ?_, hb ▸ hB.out⟩
            rw [e2, ← e1]
            exact F
        · obtain rfl : k = l.length := by omega
          rw [Nat.sub_self] at LN
          go_wp2_with fail
          refine LN.out.mono ?_; rintro e w' ⟨rfl, rfl⟩
          go_wp2
          go_ret
          refine ⟨_, rfl, ?_, hb ▸ hB.out⟩
          rw [Nat.min_eq_right hk2, List.take_of_length_le (by omega)]
          have F := own_base (B := w.heap.size) own.out (by omega)
          rw [List.take_of_length_le (by omega)] at F
          exact F
end Go.Proofs.Ytilpgojkbgbinaa
