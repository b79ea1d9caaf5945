/- The hash of a row of values: package value's and its reference's. -/
import Derived.Test.YtijegkiapbmekaaVal3
set_option maxRecDepth 100000
set_option linter.unusedVariables false
set_option linter.unusedSimpArgs false
namespace Go.Proofs.Ytijegkiapbmekaa
open Go.RowKit
attribute [local go_sem] run_frombits run_tobits more_more more_drew more_drewN more_size more_cell more_frozen run_store_float lt_c1 le_c1 lt_s1 le_s1 lt_c2 le_c2 lt_s2 le_s2 lt_c3 le_c3 lt_s3 le_s3 lt_c4 le_c4 lt_s4 le_s4 lt_c5 le_c5 lt_s5 le_s5 lt_c6 le_c6 lt_s6 le_s6 lt_c7 le_c7 lt_s7 le_s7 lt_c8 le_c8 lt_s8 le_s8 lt_c9 le_c9 lt_s9 le_s9 lt_c10 le_c10 lt_s10 le_s10 lt_c11 le_c11 lt_s11 le_s11 lt_c12 le_c12 lt_s12 le_s12 le_c0 run_cmpstring

def hbN (h c : Nat) : Nat := (h ^^^ c) * 1099511628211 % 18446744073709551616
def h8N : Nat → Nat → Nat → Nat
  | 0, h, _ => h
  | k + 1, h, n => h8N k (hbN h (n % 256)) (n / 256)
def hbytes (h : Nat) (l : List UInt8) : Nat := l.foldl (fun h c => hbN h c.toNat) h
def hash1 (h : Nat) (a : Val) : Nat :=
  h8N 8 (hbytes (h8N 8 (h8N 8 (hbN h (a.k % 256).toNat) (a.i % 18446744073709551616).toNat) a.s.size) a.s.toList) (ordN a.f)
def hashV (l : List Val) : Nat := l.foldl hash1 14695981039346656037
theorem hbN_lt (h c : Nat) : hbN h c < 18446744073709551616 := Nat.mod_lt _ (by decide)
theorem h8N_lt : ∀ k h n, h < 18446744073709551616 → h8N k h n < 18446744073709551616
  | 0, h, n, hh => hh
  | k + 1, h, n, hh => h8N_lt k _ _ (hbN_lt _ _)
theorem hbytes_lt (l : List UInt8) : ∀ h, h < 18446744073709551616 → hbytes h l < 18446744073709551616 := by
  induction l with
  | nil => intro h hh; exact hh
  | cons c l ih => intro h hh; exact ih _ (hbN_lt _ _)
theorem hash1_lt (h : Nat) (a : Val) (hh : h < 18446744073709551616) : hash1 h a < 18446744073709551616 := by
  unfold hash1; exact h8N_lt _ _ _ (hbytes_lt _ _ (h8N_lt _ _ _ (h8N_lt _ _ _ (hbN_lt _ _))))
theorem step_eq {h c : Nat} (hh : h < 18446744073709551616) (hc : c < 256) : IntKind.u64.wrap (bits .xor .u64 (h : Int) (c : Int) * 1099511628211) = (hbN h c : Int) := by
  rw [u64_xor_nat h c hh (by omega), IntKind.wrap_u64]
  unfold hbN
  omega

set_option maxHeartbeats 600000 in
theorem byte_any (g h c : Nat) (w : World) (hc : w.cell? ⟨g, 0, none⟩ = some (.int .u64 h)) (hf : w.frozen? ⟨g, 0, none⟩ = false) (hh : h < 18446744073709551616) (h8 : c < 256) :
    Calls Try.prog 42 #[.pointer (some ⟨g, 0, none⟩), .int .u8 c] w fun e w' => e = .returned (.tuple #[]) ∧ w.setCell ⟨g, 0, none⟩ (.int .u64 (hbN h c)) = w' := by
  have HS := Lib.hid (step_eq hh h8)
  go_enter Try.func42, Try.ntmps42
  go_wp2
  go_end0
  exact ⟨rfl, by rw [HS.out]⟩

theorem setCell_setCell (w : World) (a : Addr) (v v' : Value) : (w.setCell a v).setCell a v' = w.setCell a v' := by
  cases w with
  | mk heap tape drawn os output =>
  simp only [World.setCell]
  congr 1
  apply Array.ext_getElem?
  intro k
  simp only [Array.getElem?_modify]
  by_cases hk : a.block = k
  · simp only [hk, if_true, Option.map_map]
    congr 1
    funext o
    cases o <;> simp
    split <;> simp
  · simp [hk]
theorem frozen_setCell (w : World) (a q : Addr) (v : Value) : (w.setCell a v).frozen? q = w.frozen? q := by
  simp only [World.frozen?, World.setCell, Array.getElem?_modify]
  by_cases hk : a.block = q.block
  · simp only [hk, if_true]
    cases h : w.heap[q.block]? with
    | none => simp
    | some o => cases o <;> simp
  · simp [hk]

set_option maxHeartbeats 600000 in
theorem number_any (g h n : Nat) (w : World) (hc : w.cell? ⟨g, 0, none⟩ = some (.int .u64 h)) (hf : w.frozen? ⟨g, 0, none⟩ = false) (hh : h < 18446744073709551616) (hn : n < 18446744073709551616) :
    Calls Try.prog 43 #[.pointer (some ⟨g, 0, none⟩), .int .u64 n] w fun e w' => e = .returned (.tuple #[]) ∧ w.setCell ⟨g, 0, none⟩ (.int .u64 (h8N 8 h n)) = w' := by
  go_enter Try.func43, Try.ntmps43
  go_wp2
  go_loopw [1, 4] (fun n' i wr => ∃ k m h' : Nat, k ≤ 8 ∧ i = .int .i64 k ∧ n' = .int .u64 m ∧ m < 18446744073709551616 ∧ h' < 18446744073709551616 ∧ wr.cell? ⟨g, 0, none⟩ = some (.int .u64 h') ∧ wr.frozen? ⟨g, 0, none⟩ = false ∧
      Hid (h8N (8 - k) h' m = h8N 8 h n) ∧ Hid ((k = 0 → wr = w) ∧ (k ≠ 0 → wr = w.setCell ⟨g, 0, none⟩ (.int .u64 h')))) (fun _ i _ => 8 - (intOf i).toNat)
  case atStart => exact ⟨0, n, h, by omega, rfl, rfl, hn, hh, hc, hf, Lib.hid rfl, Lib.hid ⟨fun _ => rfl, fun h => absurd rfl h⟩⟩
  case round =>
    obtain ⟨k, m, h', hk, rfl, rfl, hm, hh', hcr, hfr, hr, hw⟩ := hrel
    by_cases hlt : k < 8
    · have hlt' : (k : Int) < 8 := by omega
      have hcx : (wr.setCell ⟨g, 0, none⟩ (.int .u64 (hbN h' (m % 256)))).cell? ⟨g, 0, none⟩ = some (.int .u64 (hbN h' (m % 256))) := World.cell?_setCell_same _ _ _ hcr
      have hfx : (wr.setCell ⟨g, 0, none⟩ (.int .u64 (hbN h' (m % 256)))).frozen? ⟨g, 0, none⟩ = false := (frozen_setCell _ _ _ _).trans hfr
      have HR := Lib.hid (show h8N (8 - (k + 1)) (hbN h' (m % 256)) (m / 256) = h8N 8 h n by
        rw [← hr.out, show 8 - k = (8 - (k + 1)) + 1 by omega]; rfl)
      have HW := Lib.hid (show wr.setCell ⟨g, 0, none⟩ (.int .u64 (hbN h' (m % 256))) = w.setCell ⟨g, 0, none⟩ (.int .u64 (hbN h' (m % 256))) by
        rcases Nat.eq_zero_or_pos k with h0 | h0
        · rw [hw.out.1 h0]
        · rw [hw.out.2 (by omega), setCell_setCell])
      go_wp2_with fail
      rw [show ((m : Int) % 256) = ((m % 256 : Nat) : Int) from by omega]
      refine (byte_any g h' (m % 256) wr hcr hfr hh' (by omega)).mono ?_
      rintro e wx ⟨rfl, hx⟩
      have HX := Lib.hid hx; clear hx
      have HC := Lib.hid hcx; clear hcx
      have HF := Lib.hid hfx; clear hfx
      clear hcr hfr
      go_wp2
      go_roundw
      case rel => exact ⟨k + 1, m / 256, hbN h' (m % 256), by omega, by go_num, by go_num, by omega, hbN_lt _ _, by rw [← HX.out]; exact HC.out, by rw [← HX.out]; exact HF.out, HR, Lib.hid ⟨fun h => by omega, fun _ => by rw [← HX.out]; exact HW.out⟩⟩
      case measure => simp [intOf]; omega
    · obtain rfl : k = 8 := by omega
      go_wp2
      go_end0
      exact ⟨rfl, by rw [hw.out.2 (by omega), ← hr.out]; rfl⟩
theorem bytes_step (s : ByteArray) (j : Nat) (h : j < s.size) : s.toList.drop j = s[j] :: s.toList.drop (j + 1) := by
  rw [ByteArray.toList_eq, List.drop_eq_getElem_cons (by simpa using h)]; rfl
theorem bytes_end (s : ByteArray) : s.toList.drop s.size = [] := by
  rw [ByteArray.toList_eq]; exact List.drop_eq_nil_of_le (by simp)
/-- the state of a round of Hash: the hash in block g, the value in block bx -/
structure HashAt (w wx : World) (g bx : Nat) (h : Nat) (a : Val) : Prop where
  cell : wx.cell? ⟨g, 0, none⟩ = some (.int .u64 h)
  frozen : wx.frozen? ⟨g, 0, none⟩ = false
  lt : g < bx
  size : bx < wx.heap.size
  val : ValAt wx bx 0 a
  bel : Below g w wx
theorem HashAt.set {w wx : World} {g bx h : Nat} {a : Val} (s : HashAt w wx g bx h a) (h' : Nat) : HashAt w (wx.setCell ⟨g, 0, none⟩ (.int .u64 (h' : Int))) g bx h' a := by
  have ne : ∀ i, (⟨bx, i, none⟩ : Addr).block ≠ (⟨g, 0, none⟩ : Addr).block := fun i => by have := s.lt; show bx ≠ g; omega
  have far : ∀ i, (wx.setCell ⟨g, 0, none⟩ (.int .u64 (h' : Int))).cell? ⟨bx, i, none⟩ = wx.cell? ⟨bx, i, none⟩ := fun i =>
    World.cell?_of_block (Below.heap_setCell _ _ _ _ (ne i))
  exact ⟨World.cell?_setCell_same _ _ _ s.cell, (frozen_setCell _ _ _ _).trans s.frozen, s.lt, by have := s.size; simpa [World.setCell] using this,
    ⟨(far _).trans s.val.1, (far _).trans s.val.2.1, (far _).trans s.val.2.2.1, (far _).trans s.val.2.2.2⟩, s.bel.setCell (Nat.le_refl _) _⟩

set_option maxHeartbeats 2000000 in
theorem hash_any (A : Option Addr) (ca : Nat) (l : List Val) (hl : allOk l) (w : World) (la : l.length ≤ 9223372036854775807) (ha : ValsIn w A l) :
    Gives Try.prog 27 #[.slice A l.length ca] w (.int .u64 (hashV l)) := by
  have HA := Lib.hid ha; clear ha
  have HL := Lib.hid hl; clear hl
  go_enter Try.func27, Try.ntmps27
  go_wp2
  go_loopw [9] (fun i wr => ∃ k h : Nat, k ≤ l.length ∧ i = .int .i64 k ∧ h < 18446744073709551616 ∧ wr.cell? ⟨w.heap.size, 0, none⟩ = some (.int .u64 h) ∧ wr.frozen? ⟨w.heap.size, 0, none⟩ = false ∧ w.heap.size < wr.heap.size ∧
      Below w.heap.size w wr ∧ Hid ((l.drop k).foldl hash1 h = hashV l)) (fun i _ => l.length - (intOf i).toNat)
  case atStart => exact ⟨0, 14695981039346656037, by omega, rfl, by decide, World.cell?_alloc_at _ _ _ _ rfl, World.frozen?_alloc_at _ _ _ _ rfl, by simp, (by repeat (first | (with_reducible exact Below.refl _ _) | (with_reducible refine Below.drew ?_) | (with_reducible refine Below.alloc ?_ (by simp [more_size]; try omega) _) | (with_reducible refine Below.setCell ?_ (by simp [more_size]; try omega) _) | (with_reducible refine below_more ?_ _ (by simp [more_size]; try omega)))), Lib.hid rfl⟩
  case round =>
    obtain ⟨wo, rfl⟩ : ∃ wo : World, wo = wr := ⟨_, rfl⟩
    obtain ⟨k, h, hk, rfl, hh, hc, hf, hsz, hbel, hr⟩ := hrel
    by_cases hlt : k < l.length
    · have hlt' : (k : Int) < (l.length : Int) := by omega
      obtain ⟨b, off, rfl, hb, hcb⟩ := HA.out k hlt
      obtain ⟨c0, c1, c2, c3⟩ := hcb k hlt
      clear hcb
      have d0 := (hbel.cell (p := ⟨b, _, none⟩) hb).trans c0
      have d1 := (hbel.cell (p := ⟨b, _, none⟩) hb).trans c1
      have d2 := (hbel.cell (p := ⟨b, _, none⟩) hb).trans c2
      have d3 := (hbel.cell (p := ⟨b, _, none⟩) hb).trans c3
      clear c0 c1 c2 c3
      have ok := HL.out _ (List.getElem_mem hlt)
      have HS := Lib.hid (show (l.drop (k + 1)).foldl hash1 (hash1 h l[k]) = hashV l by
        rw [← hr.out, List.drop_eq_getElem_cons hlt, List.foldl_cons])
      clear hr
      generalize l[k] = a at *
      have hs : HashAt w (wo.alloc (.cells #[.int .i64 a.k, .int .i64 a.i, .string a.s, .float .f64 a.f] 32)) w.heap.size wo.heap.size h a := by
        exact ⟨(World.cell?_alloc_past _ _ _ hsz).trans hc, (World.frozen?_alloc_past _ _ _ hsz).trans hf, hsz, by simp, ⟨World.cell?_alloc_at _ _ _ _ rfl, World.cell?_alloc_at _ _ _ _ rfl, World.cell?_alloc_at _ _ _ _ rfl, World.cell?_alloc_at _ _ _ _ rfl⟩, hbel.alloc (by omega) _⟩
      clear hc hf hsz hbel
      go_wp2_with fail
      rw [show a.k % 256 = (((a.k % 256).toNat : Nat) : Int) from by omega]
      refine (byte_any _ h _ _ hs.cell hs.frozen hh (by omega)).mono ?_
      rintro e w1 ⟨rfl, hx⟩
      replace hs := hs.set (hbN h (a.k % 256).toNat)
      rw [hx] at hs
      clear hx d0 d1 d2 d3
      have hh1 := hbN_lt h (a.k % 256).toNat
      have e1 : w1.cell? ⟨wo.heap.size, 1, none⟩ = _ := hs.val.2.1
      go_wp2_with fail
      rw [show IntKind.u64.wrap a.i = (((a.i % 18446744073709551616).toNat : Nat) : Int) from by rw [IntKind.wrap_u64]; omega]
      refine (number_any _ _ _ _ hs.cell hs.frozen hh1 (by omega)).mono ?_
      rintro e w2 ⟨rfl, hx⟩
      replace hs := hs.set (h8N 8 (hbN h (a.k % 256).toNat) (a.i % 18446744073709551616).toNat)
      rw [hx] at hs
      clear hx e1
      have hh2 := h8N_lt 8 _ (a.i % 18446744073709551616).toNat hh1
      clear hh1
      generalize hH2 : h8N 8 (hbN h (a.k % 256).toNat) (a.i % 18446744073709551616).toNat = h2 at *
      have H2 := Lib.hid hH2; clear hH2
      have e2 : w2.cell? ⟨wo.heap.size, 2, none⟩ = _ := hs.val.2.2.1
      have hsz : a.s.size ≤ 9223372036854775807 := ok.2.2.2
      go_wp2_with fail
      refine (number_any _ _ _ _ hs.cell hs.frozen hh2 (by omega)).mono ?_
      rintro e w3 ⟨rfl, hx⟩
      replace hs := hs.set (h8N 8 h2 a.s.size)
      rw [hx] at hs
      clear hx e2
      have hh3 := h8N_lt 8 _ a.s.size hh2
      clear hh2
      generalize hH3 : h8N 8 h2 a.s.size = h3 at *
      have H3 := Lib.hid hH3; clear hH3
      have e2 : w3.cell? ⟨wo.heap.size, 2, none⟩ = _ := hs.val.2.2.1
      go_wp2_with fail
      go_loopw [29] (fun i wx => ∃ j h' : Nat, j ≤ a.s.size ∧ i = .int .i64 j ∧ h' < 18446744073709551616 ∧ HashAt w wx w.heap.size wo.heap.size h' a ∧ Hid (hbytes h' (a.s.toList.drop j) = hbytes h3 a.s.toList)) (fun i _ => a.s.size - (intOf i).toNat)
      case atStart => exact ⟨0, h3, by omega, rfl, hh3, hs, Lib.hid rfl⟩
      case round =>
        clear hs e2
        obtain ⟨j, h', hj, rfl, hh', hs, hr'⟩ := hrel
        have e2 : wr.cell? ⟨wo.heap.size, 2, none⟩ = _ := hs.val.2.2.1
        by_cases hjl : j < a.s.size
        · have hjl' : (j : Int) < (a.s.size : Int) := by omega
          have HR := Lib.hid (show hbytes (hbN h' a.s[j].toNat) (a.s.toList.drop (j + 1)) = hbytes h3 a.s.toList by
            rw [← hr'.out, bytes_step a.s j hjl]; rfl)
          have hc8 : a.s[j].toNat < 256 := UInt8.toNat_lt _
          go_wp2_with fail
          refine (byte_any _ h' _ _ hs.cell hs.frozen hh' hc8).mono ?_
          rintro e w4 ⟨rfl, hx⟩
          replace hs := hs.set (hbN h' a.s[j].toNat)
          rw [hx] at hs
          clear hx e2
          have hh4 := hbN_lt h' a.s[j].toNat
          go_wp2
          go_roundw
          case rel => exact ⟨j + 1, _, by omega, by go_num, hh4, hs, HR⟩
          case measure => simp [intOf]; omega
        · obtain rfl : j = a.s.size := by omega
          have hjl' : ¬ (a.s.size : Int) < (a.s.size : Int) := by omega
          have H4 := Lib.hid (show h' = hbytes h3 a.s.toList by rw [← hr'.out, bytes_end]; rfl)
          have e3 : wr.cell? ⟨wo.heap.size, 3, none⟩ = _ := hs.val.2.2.2
          have okf := ok.1
          have hl := ordN_lt ok.1
          go_wp2_with (first | (go_at_call 44; refine (order_any _ okf _).mono ?_; rintro e w' ⟨rfl, rfl⟩))
          refine (number_any _ _ _ _ hs.cell hs.frozen hh' hl).mono ?_
          rintro e w5 ⟨rfl, hx⟩
          replace hs := hs.set (h8N 8 h' (ordN a.f))
          rw [hx] at hs
          clear hx e2 e3
          have hh5 := h8N_lt 8 _ (ordN a.f) hh'
          have H5 := Lib.hid (show h8N 8 h' (ordN a.f) = hash1 h a by
            rw [H4.out, ← H3.out, ← H2.out]; rfl)
          go_wp2
          go_roundw
          case rel => exact ⟨k + 1, _, by omega, by go_num, hh5, hs.cell, hs.frozen, by have := hs.lt; have := hs.size; omega, hs.bel, by rw [H5.out]; exact HS⟩
          case measure => simp [intOf]; omega
    · obtain rfl : k = l.length := by omega
      have hlt' : ¬ (l.length : Int) < (l.length : Int) := by omega
      have HE := Lib.hid (show h = hashV l by rw [← hr.out, List.drop_length]; rfl)
      go_wp2
      go_ret
      exact ⟨ret_u64 (by rw [HE.out]), more_of_below hbel⟩
end Go.Proofs.Ytijegkiapbmekaa
