/- RowPlays: rows behave as the document tells, whatever the calls are. -/
import Derived.Test.YtilpgojkbgbinaaMid
import Derived.Test.YtilpgojkbgbinaaOpen9
import Derived.Deep.CutRange
import Derived.Deep.CutBlock
import Derived.Deep.LoopGhost
import Derived.Deep.RegionHeld3
set_option maxRecDepth 100000
set_option linter.unusedVariables false
set_option linter.unusedSimpArgs false
namespace Go.Proofs.Ytilpgojkbgbinaa
open Go.RowKit
open Go.Maps (has size Keyed int_keyed keyOf_int_mk)
attribute [local go_sem] run_frombits run_tobits more_more more_drew more_drewN more_size more_cell more_frozen run_store_float lt_c1 le_c1 lt_s1 le_s1 lt_c2 le_c2 lt_s2 le_s2 lt_c3 le_c3 lt_s3 le_s3 lt_c4 le_c4 lt_s4 le_s4 lt_c5 le_c5 lt_s5 le_s5 lt_c6 le_c6 lt_s6 le_s6 lt_c7 le_c7 lt_s7 le_s7 lt_c8 le_c8 lt_s8 le_s8 lt_c9 le_c9 lt_s9 le_s9 lt_c10 le_c10 lt_s10 le_s10 lt_c11 le_c11 lt_s11 le_s11 lt_c12 le_c12 lt_s12 le_s12 le_c0
/-- behind so many calls -/
structure Rnd (w W wV : World) (V : Nat → Prop) (p pr : Nat) (mx : Int) (i : Nat) (g : Int → Option Row9) (n : Nat) (nx wr : Int) : Prop where
  mid : Mid w W wV V p pr mx g n nx wr g n nx
  good : Good g
  wrb : 0 ≤ wr ∧ wr ≤ i
  nxb : nx ≤ 4611686018427387904 + i
theorem mid_get9 {w0 w wV : World} {V : Nat → Prop} {p pr : Nat} {mx : Int} {g h : Int → Option Row9} {n m : Nat} {nx wr nr id : Int} (M : Mid w0 w wV V p pr mx g n nx wr h m nr) (hid : (Lit.int .i64 id).wf = true) :
    Calls Try.prog 55 #[.pointer (some ⟨p, 0, none⟩), .int .i64 id] w fun e w' => ∃ ok pver pid pA pc vl, e = .returned (.tuple #[.agg #[.int .i64 pid, .int .i64 pver, .slice pA vl.length pc], .bool ok]) ∧ w'.ownsRow w.heap.size 103 4 (.slice pA vl.length pc) vl.length (cellsOf vl) ∧ Below w.heap.size w w' ∧ Hid ((ok = false ∧ g id = none ∧ vl = []) ∨ (ok = true ∧ pid = id ∧ g id = some (pver, vl))) := by
  cases hg : g id with
  | none => exact (mid_get_none M hid hg).mono fun e w' ⟨q1, q2⟩ => ⟨false, 0, 0, none, 0, [], q1, World.ownsRow_nil _ _ _ _, q2, Lib.hid (.inl ⟨rfl, rfl, rfl⟩)⟩
  | some r => exact (mid_get_some M hid hg).mono fun e w' ⟨A, ca, q1, q2, q3⟩ => ⟨true, r.1, id, A, ca, r.2, q1, q2, q3, Lib.hid (.inr ⟨rfl, rfl, rfl⟩)⟩
theorem rid_get9 {w0 w wV : World} {V : Nat → Prop} {p pr : Nat} {mx : Int} {g h : Int → Option Row9} {n m : Nat} {nx wr nr id pid pver : Int} {ok : Bool} {vl : List Val} (M : Mid w0 w wV V p pr mx g n nx wr h m nr) (hc : (ok = false ∧ h id = none ∧ vl = []) ∨ (ok = true ∧ pid = id ∧ h id = some (pver, vl))) :
    Calls Try.prog 69 #[.pointer (some ⟨pr, 0, none⟩), .int .i64 id] w fun e w' => ∃ qid qver qA qc ql, e = .returned (.tuple #[.agg #[.int .i64 qid, .int .i64 qver, .slice qA (List.length ql) qc], .bool ok]) ∧ Below w.heap.size w w' ∧ Hid (ok = true → qid = pid ∧ qver = pver ∧ ql = vl ∧ ValsIn w' qA vl) := by
  rcases hc with ⟨rfl, h1, _⟩ | ⟨rfl, h1, h2⟩
  · exact (rid_get_none M h1).mono fun e w' ⟨q1, q2⟩ => ⟨0, 0, none, 0, [], q1, q2, Lib.hid (fun c => by cases c)⟩
  · exact (rid_get_some M h2).mono fun e w' ⟨A, ca, q1, q2, q3⟩ => ⟨id, pver, A, ca, vl, q1, q2, Lib.hid (fun _ => ⟨h1.symm, rfl, rfl, q3⟩)⟩
/-- behind a call of both -/
structure Aft (w W : World) (V : Nat → Prop) (p pr : Nat) (mx : Int) (i : Nat) (g : Int → Option Row9) (n : Nat) (nx wq wq' what er : Int) : Prop where
  mid : Mid w W W V p pr mx g n nx wq' g n nx
  good : Good g
  nxb : nx ≤ 4611686018427387904 + (i + 1 : Nat)
  told : (wq' = wq + 1 ∧ 0 ≤ what ∧ what ≤ 6 ∧ er = 0) ∨ (wq' = wq ∧ ¬ (0 ≤ what ∧ what ≤ 6 ∧ er = 0))
theorem own_nil9 {w : World} {base : Nat} {e : TypeId} {s n c : Nat} {A : Option Addr} {xs : List Value} (h : w.ownsRow base e s (.slice A n c) n xs) : A = none → c = 0 ∧ n = 0 := fun e => by
  rcases h.2 with ⟨e2, e3⟩ | ⟨g9, cp, cur, e2, _⟩
  · injection e2 with _ _ e4; exact ⟨e4, e3⟩
  · injection e2 with e4; rw [e] at e4; cases e4
theorem bne9 {a b : Int} (h : a ≠ b) : (a == b) = false := by simpa using h
def ToldB (what wq wq' er : Int) : Prop := (wq' = wq + 1 ∧ 0 ≤ what ∧ what ≤ 6 ∧ er = 0) ∨ (wq' = wq ∧ ¬ (0 ≤ what ∧ what ≤ 6 ∧ er = 0))
theorem Good.upd {g : Int → Option Row9} (h : Good g) {id : Int} {v : Int} {l : List Val} (hl : allOk l ∧ l.length ≤ 1000) : Good (upd g id (some (v, l))) := fun x r hr => by
  by_cases e : x = id
  · subst e; rw [upd_same] at hr; injection hr with hr; subst hr; exact hl
  · rw [upd_other _ _ e] at hr; exact h x r hr
theorem Good.del {g : Int → Option Row9} (h : Good g) (id : Int) : Good (Go.Proofs.Ytilpgojkbgbinaa.upd g id none) := fun x r hr => by
  by_cases e : x = id
  · subst e; rw [upd_same] at hr; cases hr
  · rw [upd_other _ _ e] at hr; exact h x r hr
theorem FIN9 {w W Wy W2 : World} {V Vy : Nat → Prop} {p pr i bx : Nat} {mx : Int} {g' : Int → Option Row9} {n' : Nat} {nx' wq wq' what er : Int} {vA : Option Addr} {vc : Nat} {vs : List Val} (hVV : ∀ k, V k → Vy k) (hVb : Vy bx) (hb : Wy.heap[bx]? = W2.heap[bx]?) (oy : OwnV Wy Vy vA vc vs) (o2 : OwnV W2 V vA vc vs) (M : Mid w W Wy Vy p pr mx g' n' nx' wq' g' n' nx') (hg : Good g') (h1 : nx' ≤ 4611686018427387904 + (i + 1 : Nat)) (h2 : ToldB what wq wq' er) :
    Hid (Aft w W V p pr mx i g' n' nx' wq wq' what er) ∧ Hid (W.heap[bx]? = W2.heap[bx]? ∧ OwnV W V vA vc vs) :=
  ⟨Lib.hid ⟨M.rebase hVV, hg, h1, h2⟩, Lib.hid ⟨(M.keep bx hVb).trans hb, ⟨own_same oy.own (fun k e => M.keep k (oy.blk k e)), o2.blk, o2.nil, o2.len⟩⟩⟩
set_option maxHeartbeats 40000000 in
theorem walk_RowPlays (room : Int) (A : Option Addr) (ca : Nat) (l : List Stp) (w : World) (la : l.length ≤ 9223372036854775807) (hl : ∀ s ∈ l, Stp.ok w s) (ha : RowIn stpC 4 w A l) :
    Gives Try.prog 15 #[.int .i64 room, .slice A l.length ca] w (.bool true) := by
  rcases Nat.lt_or_ge 80 l.length with h80 | h80
  · have h1 : (80 : Int) < (l.length : Int) := by omega
    go_enter Try.func15, Try.ntmps15
    go_wp2_with fail
    refine (known9 _).mono' ?_; intro x
    go_wp2
    go_ret
    exact ⟨rfl, (more_of_below (by repeat (first | (with_reducible exact Below.refl _ _) | (with_reducible refine Below.drew ?_) | (with_reducible refine Below.alloc ?_ (by simp [more_size]; try omega) _) | (with_reducible refine Below.setCell ?_ (by simp [more_size]; try omega) _) | (with_reducible refine below_more ?_ _ (by simp [more_size]; try omega)))))⟩
  have h1 : ((80 : Int) < (l.length : Int)) = False := eq_false (by omega)
  clear la
  go_enter Try.func15, Try.ntmps15
  go_wp2_with fail
  refine (known9 _).mono' ?_; intro x
  go_wp2_with fail
  refine (newI (X := fun _ => False) (w0 := w) room _ (by repeat (first | (with_reducible exact Below.refl _ _) | (with_reducible refine Below.drew ?_) | (with_reducible refine Below.alloc ?_ (by simp [more_size]; try omega) _) | (with_reducible refine Below.setCell ?_ (by simp [more_size]; try omega) _) | (with_reducible refine below_more ?_ _ (by simp [more_size]; try omega)))) (fun k h => h.elim)).mono ?_
  rintro e w1 ⟨p, rfl, hS, hB1⟩
  go_wp2_with fail
  refine (ref_new room w1).mono ?_
  rintro e w2 ⟨pr, rfl, hR, hB2, hpr⟩
  have hM : Mid w w2 w2 (fun _ => False) p pr (min (max room 0) 200) (fun _ => none) 0 1 0 (fun _ => none) 0 1 :=
    ⟨fun k => k = pr, fun k => k = pr, none, 0, [], hS.own hB2 (fun k hk => .inr (by rw [hk]; exact ⟨hpr, hR.Glt pr hR.hp⟩)), hR, Agree.none9, rfl, fun k hk => hk, fun k hk => hk.elim, fun k hk => by rw [hk]; exact Nat.le_trans hS.bel.size hpr, fun k hk => hk.elim⟩
  have WR := Lib.hid (mid_wri hM)
  have hI : Hid (Rnd w w2 w2 (fun _ => False) p pr (min (max room 0) 200) 0 (fun _ => none) 0 1 0) := Lib.hid ⟨hM, (fun id r h => by cases h), by omega, by omega⟩
  clear hS hB1 hR hB2 hpr hM
  generalize min (max room 0) 200 = mx at *
  have HS := Lib.hid ha
  have HO := Lib.hid hl
  clear ha hl h1
  go_wp2_with fail
  refine WR.out.mono ?_
  rintro e w' ⟨rfl, rfl⟩
  clear WR
  go_wp2_with fail
  go_loopg [7, 8] l.length (fun k s7 s8 W => ∃ (i : Nat) (g : Int → Option Row9) (n : Nat) (nx wr : Int), k = l.length - i ∧ i ≤ l.length ∧ s8 = .int .i64 (i : Nat) ∧ s7 = .int .i64 wr ∧ Hid (Rnd w W W (fun _ => False) p pr mx i g n nx wr))
  case atStart => exact ⟨0, _, _, _, _, by omega, by omega, rfl, rfl, hI⟩
  case round =>
    obtain ⟨i, g, n, nx, wq, rfl, hi, rfl, rfl, hI⟩ := hrel
    have hbel := Lib.hid hI.out.mid.bel
    by_cases h1 : i < l.length
    · have h1' : (i : Int) < (l.length : Int) := by omega
      obtain ⟨b, o, rfl, hb, hc⟩ := HS.out i h1
      have ho := HO.out l[i] (List.getElem_mem h1)
      have x0 : wr.cell? ⟨b, o + i * 4, none⟩ = some (.int .i64 l[i].what) := (hbel.out.cell hb).trans (by have := hc i h1 0 _ rfl; simpa using this)
      have x1 : wr.cell? ⟨b, o + i * 4 + 1, none⟩ = some (.int .i64 l[i].id) := (hbel.out.cell hb).trans (hc i h1 1 _ rfl)
      have x2 : wr.cell? ⟨b, o + i * 4 + 2, none⟩ = some (.int .i64 l[i].ver) := (hbel.out.cell hb).trans (hc i h1 2 _ rfl)
      have x3 : wr.cell? ⟨b, o + i * 4 + 3, none⟩ = some (.slice l[i].A l[i].vals.length l[i].cap) := (hbel.out.cell hb).trans (hc i h1 3 _ rfl)
      clear hb hc
      generalize l[i] = s at *
      obtain ⟨what, id, ver, B, cb, vs⟩ := s
      dsimp only at x0 x1 x2 x3
      have hA1 : B = none → cb = 0 ∧ vs.length = 0 := fun e => by have h1 := ho.nil e; have h2 := ho.len; dsimp only at h1 h2; omega
      have hok := Lib.hid ho.ok
      have hid := ho.id
      have hva := Lib.hid ho.vals
      dsimp only at hok hid hva
      have lv : vs.length ≤ 9223372036854775807 := by have h1 := ho.len; have h2 := ho.cap; dsimp only at h1 h2; omega
      have F2 := Lib.hid (fun W (hW : Below w.heap.size w W) => few_any B cb vs 10 W lv (hva.out.below hW))
      clear lv ho
      go_wp2_with fail
      refine calls_at (R := fun W => Mid w W W (fun k => k = wr.heap.size) p pr mx g n nx wq g n nx ∧ Blk W wr.heap.size #[.int .i64 what, .int .i64 id, .int .i64 ver, .slice B vs.length cb] 112) ⟨hI.out.mid.fresh (by repeat (first | (with_reducible exact Below.refl _ _) | (with_reducible refine Below.drew ?_) | (with_reducible refine Below.alloc ?_ (by simp [more_size]; try omega) _) | (with_reducible refine Below.setCell ?_ (by simp [more_size]; try omega) _) | (with_reducible refine below_more ?_ _ (by simp [more_size]; try omega)))) (fun k hk => .inr (by rw [hk]; simp)), Blk.new _ _ _ rfl⟩ ?_
      rintro W1 ⟨M1, hbx⟩
      generalize wr.heap.size = bx at *
      have hbl1 := Lib.hid M1.bel
      refine (F2.out W1 hbl1.out).mono ?_
      rintro e w' ⟨rfl, rfl⟩
      obtain ⟨r2, hr2⟩ : ∃ r, fewV vs 10 = r := ⟨_, rfl⟩
      rw [hr2]
      cases r2 with
      | false =>
        clear hr2 M1 hbx
        go_wp2
        go_ret
        exact ⟨rfl, more_of_below hbl1.out⟩
      | true =>
        have h10 : vs.length ≤ 10 := by
          unfold fewV at hr2
          simp at hr2
          omega
        have y0 := hbx.cell 0
        have y1 := hbx.cell 1
        have y2 := hbx.cell 2
        have y3 := hbx.cell 3
        clear hr2 F2 x0 x1 x2 x3
        have CP := Lib.hid (copy_any B cb vs W1 (by omega) (fun e => ⟨(hA1 e).1, List.eq_nil_of_length_eq_zero (hA1 e).2⟩) (hva.out.below hbl1.out))
        replace M1 := Lib.hid M1
        go_wp2_with fail
        refine CP.out.mono ?_
        rintro e W2 ⟨v, rfl, own2, hB2⟩
        obtain ⟨vA, vc, rfl⟩ := own_form9 own2
        have hne : ∀ k, (Value.slice vA vs.length vc).ownBlock = some k → bx < k := fun k e => by
          have := own_ge own2 k e; have := hbx.lt; omega
        have M2 := Lib.hid (M1.out.fresh (V' := fun k => k = bx ∨ (Value.slice vA vs.length vc).ownBlock = some k) hB2 (fun k hk => hk.elim .inl (fun q => .inr ⟨own_ge own2 k q, own_lt9 own2 k q⟩)))
        have o2 : Hid (OwnV W2 (fun k => k = bx ∨ (Value.slice vA vs.length vc).ownBlock = some k) vA vc vs) := Lib.hid ⟨own_lower own2 (Nat.zero_le _), fun k e => .inr e, own_nil9 own2, by omega⟩
        have hbx2 := hbx.below hB2 hbx.lt
        have hG := Lib.hid hI.out.good
        have hwb := Lib.hid hI.out.wrb
        have hnb := Lib.hid hI.out.nxb
        replace hne := Lib.hid hne
        clear M1 hB2 own2 y0 y1 y2 y3 hbx hbl1 CP hI hbel
        have y0 := hbx2.cell 0
        have y1 := hbx2.cell 1
        have y2 := hbx2.cell 2
        have y3 := hbx2.cell 3
        replace hbx2 := Lib.hid hbx2
        generalize hV : (fun k => k = bx ∨ (Value.slice vA vs.length vc).ownBlock = some k) = V at *
        replace hV := Lib.hid hV
        go_upto_block 2 with fail
        go_cut [11, 12, 13, 14, 15] from 54 to 122 (fun s11 s12 s13 s14 s15 W => ∃ (g' : Int → Option Row9) (n' : Nat) (nx' wq' er a : Int), s11 = .int .i64 er ∧ s12 = .int .i64 er ∧ s13 = .int .i64 a ∧ s14 = .int .i64 a ∧ Hid (Aft w W V p pr mx i g' n' nx' wq wq' what er) ∧ Hid (W.heap[bx]? = W2.heap[bx]? ∧ OwnV W V vA vc vs))
        case first =>
          have hle := M2.out.le
          have hrng := M2.out.rng
          have hgn : Hid (g nx = none) := Lib.hid (by
            cases hc : g nx with
            | none => rfl
            | some r => have := hrng nx (by rw [hc]; simp); omega)
          have hnm : Hid ((n : Int) ≤ mx) := Lib.hid hle.1
          have hwbo := hwb.out
          have hnbo := hnb.out
          have hw1 : Hid (-9223372036854775808 ≤ wq + 1 ∧ wq + 1 < 9223372036854775808) := Lib.hid (by omega)
          have hnx0 : Hid (nx < 9223372036854775808) := Lib.hid (by omega)
          have hnx1 : Hid (nx + 1 < 9223372036854775808) := Lib.hid (by omega)
          have hnx2 : Hid (-9223372036854775808 ≤ nx ∧ nx + 1 < 9223372036854775808) := Lib.hid (by omega)
          have nx0 : Hid (nx ≤ 4611686018427387904 + (i + 1 : Nat)) := Lib.hid (by omega)
          have nxI : Hid (nx + 1 ≤ 4611686018427387904 + (i + 1 : Nat)) := Lib.hid (by omega)
          have vok : Hid (allOk vs ∧ vs.length ≤ 1000) := Lib.hid ⟨hok.out, by omega⟩
          have hVb : Hid (V bx) := Lib.hid (by rw [← hV.out]; exact .inl rfl)
          have CB := Lib.hid (show ∀ W : World, W.heap[bx]? = W2.heap[bx]? → W.cell? ⟨bx, 0, none⟩ = some (.int .i64 what) ∧ W.cell? ⟨bx, 1, none⟩ = some (.int .i64 id) ∧ W.cell? ⟨bx, 2, none⟩ = some (.int .i64 ver) ∧ W.cell? ⟨bx, 3, none⟩ = some (.slice B vs.length cb) from fun W h => by
            have q : Blk W bx #[.int .i64 what, .int .i64 id, .int .i64 ver, .slice B vs.length cb] 112 := h.trans hbx2.out
            exact ⟨q.cell 0, q.cell 1, q.cell 2, q.cell 3⟩)
          have S0d := (CB.out W2 rfl).2
          have M2d := Lib.hid (M2.out.below (w' := W2.drew) (Below.drew (Below.refl _ _)))
          have FIN := Lib.hid (fun (W : World) g' n' nx' wq' er (M : Mid w W W2 V p pr mx g' n' nx' wq' g' n' nx') (hg : Good g') (h1 : nx' ≤ 4611686018427387904 + (i + 1 : Nat)) (h2 : (wq' = wq + 1 ∧ 0 ≤ what ∧ what ≤ 6 ∧ er = 0) ∨ (wq' = wq ∧ ¬ (0 ≤ what ∧ what ≤ 6 ∧ er = 0))) => FIN9 (fun k h => h) hVb.out rfl o2.out o2.out M hg h1 h2)
          have hwhat : (what = 0 ∨ what = 1 ∨ what = 2) ∨ what = 3 ∨ (what = 4 ∨ what = 5) ∨ what = 6 ∨ ((what == 0) = false ∧ (what == 1) = false ∧ (what == 2) = false ∧ (what == 3) = false ∧ (what == 4) = false ∧ (what == 5) = false ∧ (what == 6) = false ∧ Hid (¬ (0 ≤ what ∧ what ≤ 6))) := by
            by_cases h : 0 ≤ what ∧ what ≤ 6
            · omega
            · exact .inr (.inr (.inr (.inr ⟨bne9 (by omega), bne9 (by omega), bne9 (by omega), bne9 (by omega), bne9 (by omega), bne9 (by omega), bne9 (by omega), Lib.hid h⟩)))
          clear hle hrng hwbo hnbo hwb hnb hV hne hok
          rcases hwhat with hwhat | rfl | hwhat | rfl | ⟨hw0, hw1', hw2, hw3, hw4, hw5, hw6, hno⟩
          · by_cases hn : (n : Int) < mx
            · replace hn := Lib.hid hn
              rcases hwhat with rfl | rfl | rfl
              all_goals
                as_aux_lemma =>
                go_wp2_with fail
                refine (mid_ins_ok M2.out o2.out hnx1.out hw1.out hn.out).mono ?_
                rintro e W3 ⟨rfl, M3⟩
                obtain ⟨s0, s1, s2, s3⟩ := CB.out W3 (M3.keep bx hVb.out)
                replace M3 := Lib.hid M3
                go_wp2_with fail
                refine (rid_ins_ok M3.out (by omega) hA1 hva.out hnx2.out hn.out hgn.out).mono ?_
                rintro e W4 ⟨rfl, M4⟩
                replace M4 := Lib.hid M4
                go_wp2
                go_meet
                exact ⟨_, _, _, _, 0, nx, rfl, rfl, rfl, rfl, FIN.out _ _ _ _ _ _ M4.out (hG.out.upd vok.out) nxI.out (.inl ⟨rfl, by decide, by decide, rfl⟩)⟩
            · replace hn : Hid (mx ≤ (n : Int)) := Lib.hid (by omega)
              rcases hwhat with rfl | rfl | rfl
              all_goals
                as_aux_lemma =>
                go_wp2_with fail
                refine (mid_ins_no M2.out o2.out hnx0.out hn.out).mono ?_
                rintro e W3 ⟨rfl, M3⟩
                obtain ⟨s0, s1, s2, s3⟩ := CB.out W3 (M3.keep bx hVb.out)
                replace M3 := Lib.hid M3
                go_wp2_with fail
                refine (rid_ins_no M3.out (.slice B vs.length cb) hn.out).mono ?_
                rintro e W4 ⟨rfl, M4⟩
                replace M4 := Lib.hid M4
                go_wp2
                go_meet
                exact ⟨_, _, _, _, 70, 0, rfl, rfl, rfl, rfl, FIN.out _ _ _ _ _ _ M4.out hG.out nx0.out (.inr ⟨rfl, by omega⟩)⟩
          · cases hr : g id with
            | none =>
              replace hr := Lib.hid hr
              as_aux_lemma =>
              have SC := Lib.hid (fun (W : World) h m nr (M : Mid w W W2 V p pr mx g n nx wq h m nr) => mid_rep_no M hid (.slice vA vs.length vc) hr.out)
              have RC := Lib.hid (fun (W : World) g1 n1 nx1 wr1 (M : Mid w W W2 V p pr mx g1 n1 nx1 wr1 g n nx) => rid_rep_no M (.slice B vs.length cb) hr.out)
              go_upto_region 24 with fail
              go_region_held3 (fun W' => (W'.cell? ⟨bx, 1, none⟩ = some (.int .i64 id) ∧ W'.cell? ⟨bx, 2, none⟩ = some (.int .i64 ver) ∧ W'.cell? ⟨bx, 3, none⟩ = some (.slice B vs.length cb))) (first | assumption | exact S0d) ((first
                | (go_at_call 54; (first | with_reducible refine Calls.mono (SC.out _ _ _ _ M2d.out) ?_ | with_reducible refine Calls.mono (SC.out _ _ _ _ MR.out) ?_); rintro e WS ⟨rfl, MS⟩; have CS := (CB.out WS (MS.keep bx hVb.out)).2; replace MS := Lib.hid MS)
                | (go_at_call 64; (first | with_reducible refine Calls.mono (RC.out _ _ _ _ _ M2d.out) ?_ | with_reducible refine Calls.mono (RC.out _ _ _ _ _ MS.out) ?_); rintro e WR ⟨rfl, MR⟩; have CR := (CB.out WR (MR.keep bx hVb.out)).2; replace MR := Lib.hid MR)))
              all_goals
                clear SC RC
                go_wp2
                go_meet
                first
                  | exact ⟨_, _, _, _, 71, 0, rfl, rfl, rfl, rfl, FIN.out _ _ _ _ _ _ MR.out hG.out nx0.out (.inr ⟨rfl, by omega⟩)⟩
                  | exact ⟨_, _, _, _, 71, 0, rfl, rfl, rfl, rfl, FIN.out _ _ _ _ _ _ MS.out hG.out nx0.out (.inr ⟨rfl, by omega⟩)⟩
            | some r =>
              replace hr := Lib.hid hr
              as_aux_lemma =>
              have SC := Lib.hid (fun (W : World) h m nr (M : Mid w W W2 V p pr mx g n nx wq h m nr) => mid_rep_ok M o2.out hid hw1.out hr.out)
              have RC := Lib.hid (fun (W : World) g1 n1 nx1 wr1 (M : Mid w W W2 V p pr mx g1 n1 nx1 wr1 g n nx) => rid_rep_ok M hnm.out (by omega) hA1 hva.out hr.out)
              go_upto_region 24 with fail
              go_region_held3 (fun W' => (W'.cell? ⟨bx, 1, none⟩ = some (.int .i64 id) ∧ W'.cell? ⟨bx, 2, none⟩ = some (.int .i64 ver) ∧ W'.cell? ⟨bx, 3, none⟩ = some (.slice B vs.length cb))) (first | assumption | exact S0d) ((first
                | (go_at_call 54; (first | with_reducible refine Calls.mono (SC.out _ _ _ _ M2d.out) ?_ | with_reducible refine Calls.mono (SC.out _ _ _ _ MR.out) ?_); rintro e WS ⟨rfl, MS⟩; have CS := (CB.out WS (MS.keep bx hVb.out)).2; replace MS := Lib.hid MS)
                | (go_at_call 64; (first | with_reducible refine Calls.mono (RC.out _ _ _ _ _ M2d.out) ?_ | with_reducible refine Calls.mono (RC.out _ _ _ _ _ MS.out) ?_); rintro e WR ⟨rfl, MR⟩; have CR := (CB.out WR (MR.keep bx hVb.out)).2; replace MR := Lib.hid MR)))
              all_goals
                clear SC RC
                go_wp2
                go_meet
                first
                  | exact ⟨_, _, _, _, 0, 0, rfl, rfl, rfl, rfl, FIN.out _ _ _ _ _ _ MR.out (hG.out.upd vok.out) nx0.out (.inl ⟨rfl, by decide, by decide, rfl⟩)⟩
                  | exact ⟨_, _, _, _, 0, 0, rfl, rfl, rfl, rfl, FIN.out _ _ _ _ _ _ MS.out (hG.out.upd vok.out) nx0.out (.inl ⟨rfl, by decide, by decide, rfl⟩)⟩
          · cases hr : g id with
            | none =>
              replace hr := Lib.hid hr
              rcases hwhat with rfl | rfl
              all_goals
                as_aux_lemma =>
                have SC := Lib.hid (fun (W : World) h m nr (M : Mid w W W2 V p pr mx g n nx wq h m nr) => mid_era_no M hid hr.out)
                have RC := Lib.hid (fun (W : World) g1 n1 nx1 wr1 (M : Mid w W W2 V p pr mx g1 n1 nx1 wr1 g n nx) => rid_era_no M hr.out)
                go_upto_region 27 with fail
                go_region_held3 (fun W' => (W'.cell? ⟨bx, 1, none⟩ = some (.int .i64 id) ∧ W'.cell? ⟨bx, 2, none⟩ = some (.int .i64 ver) ∧ W'.cell? ⟨bx, 3, none⟩ = some (.slice B vs.length cb))) (first | assumption | exact S0d) ((first
                  | (go_at_call 37; (first | with_reducible refine Calls.mono (SC.out _ _ _ _ M2d.out) ?_ | with_reducible refine Calls.mono (SC.out _ _ _ _ MR.out) ?_); rintro e WS ⟨rfl, MS⟩; have CS := (CB.out WS (MS.keep bx hVb.out)).2; replace MS := Lib.hid MS)
                  | (go_at_call 65; (first | with_reducible refine Calls.mono (RC.out _ _ _ _ _ M2d.out) ?_ | with_reducible refine Calls.mono (RC.out _ _ _ _ _ MS.out) ?_); rintro e WR ⟨rfl, MR⟩; have CR := (CB.out WR (MR.keep bx hVb.out)).2; replace MR := Lib.hid MR)))
                all_goals
                  clear SC RC
                  go_wp2
                  go_meet
                  first
                    | exact ⟨_, _, _, _, 71, 0, rfl, rfl, rfl, rfl, FIN.out _ _ _ _ _ _ MR.out hG.out nx0.out (.inr ⟨rfl, by omega⟩)⟩
                    | exact ⟨_, _, _, _, 71, 0, rfl, rfl, rfl, rfl, FIN.out _ _ _ _ _ _ MS.out hG.out nx0.out (.inr ⟨rfl, by omega⟩)⟩
            | some r =>
              have hr2 : Hid (g id ≠ none) := Lib.hid (by rw [hr]; simp)
              replace hr := Lib.hid hr
              rcases hwhat with rfl | rfl
              all_goals
                as_aux_lemma =>
                have SC := Lib.hid (fun (W : World) h m nr (M : Mid w W W2 V p pr mx g n nx wq h m nr) => mid_era_ok M hid hw1.out hr.out)
                have RC := Lib.hid (fun (W : World) g1 n1 nx1 wr1 (M : Mid w W W2 V p pr mx g1 n1 nx1 wr1 g n nx) => rid_era_ok M hnm.out hr2.out)
                go_upto_region 27 with fail
                go_region_held3 (fun W' => (W'.cell? ⟨bx, 1, none⟩ = some (.int .i64 id) ∧ W'.cell? ⟨bx, 2, none⟩ = some (.int .i64 ver) ∧ W'.cell? ⟨bx, 3, none⟩ = some (.slice B vs.length cb))) (first | assumption | exact S0d) ((first
                  | (go_at_call 37; (first | with_reducible refine Calls.mono (SC.out _ _ _ _ M2d.out) ?_ | with_reducible refine Calls.mono (SC.out _ _ _ _ MR.out) ?_); rintro e WS ⟨rfl, MS⟩; have CS := (CB.out WS (MS.keep bx hVb.out)).2; replace MS := Lib.hid MS)
                  | (go_at_call 65; (first | with_reducible refine Calls.mono (RC.out _ _ _ _ _ M2d.out) ?_ | with_reducible refine Calls.mono (RC.out _ _ _ _ _ MS.out) ?_); rintro e WR ⟨rfl, MR⟩; have CR := (CB.out WR (MR.keep bx hVb.out)).2; replace MR := Lib.hid MR)))
                all_goals
                  clear SC RC
                  go_wp2
                  go_meet
                  first
                    | exact ⟨_, _, _, _, 0, 0, rfl, rfl, rfl, rfl, FIN.out _ _ _ _ _ _ MR.out (hG.out.del id) nx0.out (.inl ⟨rfl, by decide, by decide, rfl⟩)⟩
                    | exact ⟨_, _, _, _, 0, 0, rfl, rfl, rfl, rfl, FIN.out _ _ _ _ _ _ MS.out (hG.out.del id) nx0.out (.inl ⟨rfl, by decide, by decide, rfl⟩)⟩
          · go_upto_region 30 with fail
            refine wp_named9 (R := fun W => Mid w W W (fun k => V k ∨ k = W2.heap.size) p pr mx g n nx wq g n nx ∧ Blk W W2.heap.size #[.int .i64 id, .int .i64 ver, .slice vA vs.length vc] 63 ∧ W.heap[bx]? = W2.heap[bx]? ∧ OwnV W (fun k => V k ∨ k = W2.heap.size) vA vc vs) ?_ ?_
            · have hb : Below W2.heap.size W2 (W2.alloc (.cells #[.int .i64 id, .int .i64 ver, .slice vA vs.length vc] 63)) := (by repeat (first | (with_reducible exact Below.refl _ _) | (with_reducible refine Below.drew ?_) | (with_reducible refine Below.alloc ?_ (by simp [more_size]; try omega) _) | (with_reducible refine Below.setCell ?_ (by simp [more_size]; try omega) _) | (with_reducible refine below_more ?_ _ (by simp [more_size]; try omega))))
              exact ⟨M2.out.fresh hb (fun k hk => hk.imp (fun q => q) (fun q => ⟨by omega, by rw [q]; simp⟩)), Blk.new _ _ _ rfl, hb.block bx hbx2.out.lt, ⟨own_same o2.out.own (fun k e => hb.block k (own_lt9 o2.out.own k e)), fun k e => .inl (o2.out.blk k e), o2.out.nil, o2.out.len⟩⟩
            rintro Wy ⟨My, hby, hbxy, oy⟩
            have hyb : bx < W2.heap.size := hbx2.out.lt
            generalize W2.heap.size = yb at *
            generalize hVy : (fun k => V k ∨ k = yb) = Vy at *
            have hVb2 : Vy bx := by rw [← hVy]; exact .inl hVb.out
            have hVy2 : Vy yb := by rw [← hVy]; exact .inr rfl
            have hVy3 : ∀ k, V k → Vy k := fun k hk => by rw [← hVy]; exact .inl hk
            replace hVb2 := Lib.hid hVb2
            replace hVy2 := Lib.hid hVy2
            replace hVy3 := Lib.hid hVy3
            replace hVy := Lib.hid hVy
            have CY := Lib.hid (show ∀ (W : World) g1 n1 nx1 wr1 h m nr, Mid w W Wy Vy p pr mx g1 n1 nx1 wr1 h m nr → (W.cell? ⟨bx, 1, none⟩ = some (.int .i64 id) ∧ W.cell? ⟨bx, 2, none⟩ = some (.int .i64 ver) ∧ W.cell? ⟨bx, 3, none⟩ = some (.slice B vs.length cb)) ∧ W.cell? ⟨yb, 0, none⟩ = some (.int .i64 id) ∧ W.cell? ⟨yb, 1, none⟩ = some (.int .i64 ver) ∧ W.cell? ⟨yb, 2, none⟩ = some (.slice vA vs.length vc) from fun W g1 n1 nx1 wr1 h m nr M => by
              have q1 := CB.out W ((M.keep bx hVb2.out).trans hbxy)
              have q2 : Blk W yb #[.int .i64 id, .int .i64 ver, .slice vA vs.length vc] 63 := (M.keep yb hVy2.out).trans hby
              exact ⟨q1.2, q2.cell 0, q2.cell 1, q2.cell 2⟩)
            have FY := Lib.hid (fun (W : World) g' n' nx' wq' er (M : Mid w W Wy Vy p pr mx g' n' nx' wq' g' n' nx') (hg : Good g') (h1 : nx' ≤ 4611686018427387904 + (i + 1 : Nat)) (h2 : (wq' = wq + 1 ∧ 0 ≤ (6 : Int) ∧ (6 : Int) ≤ 6 ∧ er = 0) ∨ (wq' = wq ∧ ¬ (0 ≤ (6 : Int) ∧ (6 : Int) ≤ 6 ∧ er = 0))) => FIN9 hVy3.out hVb2.out hbxy oy o2.out M hg h1 h2)
            clear S0d
            have S0d := CY.out _ _ _ _ _ _ _ _ My
            have My2 := Lib.hid (My.below (w' := Wy.drew) (Below.drew (Below.refl _ _)))
            replace oy := Lib.hid oy
            clear My hby hbxy y0 y1 y2 y3 hbx2 M2 o2 CB M2d FIN
            by_cases hr : g id ≠ none ∨ id < 1 ∨ nx ≤ id
            · replace hr := Lib.hid hr
              as_aux_lemma =>
              have SC := Lib.hid (fun (W : World) h m nr (M : Mid w W Wy Vy p pr mx g n nx wq h m nr) => mid_put_no (ver := ver) M oy.out hid hr.out)
              have RC := Lib.hid (fun (W : World) g1 n1 nx1 wr1 (M : Mid w W Wy Vy p pr mx g1 n1 nx1 wr1 g n nx) => rid_put_no (ver := ver) (A := B) (ca := cb) (l := vs) M hr.out)
              go_region_held3 (fun W' => (W'.cell? ⟨bx, 1, none⟩ = some (.int .i64 id) ∧ W'.cell? ⟨bx, 2, none⟩ = some (.int .i64 ver) ∧ W'.cell? ⟨bx, 3, none⟩ = some (.slice B vs.length cb)) ∧ W'.cell? ⟨yb, 0, none⟩ = some (.int .i64 id) ∧ W'.cell? ⟨yb, 1, none⟩ = some (.int .i64 ver) ∧ W'.cell? ⟨yb, 2, none⟩ = some (.slice vA vs.length vc)) (first | assumption | exact S0d) ((first
                | (go_at_call 38; (first | with_reducible refine Calls.mono (SC.out _ _ _ _ My2.out) ?_ | with_reducible refine Calls.mono (SC.out _ _ _ _ MR.out) ?_); rintro e WS ⟨rfl, MS⟩; have CS := CY.out _ _ _ _ _ _ _ _ MS; replace MS := Lib.hid MS)
                | (go_at_call 66; (first | with_reducible refine Calls.mono (RC.out _ _ _ _ _ My2.out) ?_ | with_reducible refine Calls.mono (RC.out _ _ _ _ _ MS.out) ?_); rintro e WR ⟨rfl, MR⟩; have CR := CY.out _ _ _ _ _ _ _ _ MR; replace MR := Lib.hid MR)))
              all_goals
                clear SC RC
                go_wp2
                go_meet
                first
                  | exact ⟨_, _, _, _, 72, 0, rfl, rfl, rfl, rfl, FY.out _ _ _ _ _ _ MR.out hG.out nx0.out (.inr ⟨rfl, by omega⟩)⟩
                  | exact ⟨_, _, _, _, 72, 0, rfl, rfl, rfl, rfl, FY.out _ _ _ _ _ _ MS.out hG.out nx0.out (.inr ⟨rfl, by omega⟩)⟩
            · have hr1 : Hid (g id = none) := Lib.hid (by
                cases hc : g id with
                | none => rfl
                | some r => exact absurd (.inl (by rw [hc]; simp)) hr)
              have hr2 : Hid (1 ≤ id) := Lib.hid (by omega)
              have hr3 : Hid (id < nx) := Lib.hid (by omega)
              clear hr
              by_cases hn : (n : Int) < mx
              · replace hn := Lib.hid hn
                as_aux_lemma =>
                have SC := Lib.hid (fun (W : World) h m nr (M : Mid w W Wy Vy p pr mx g n nx wq h m nr) => mid_put_ok (ver := ver) M oy.out hid hr1.out hr2.out hr3.out hw1.out hn.out)
                have RC := Lib.hid (fun (W : World) g1 n1 nx1 wr1 (M : Mid w W Wy Vy p pr mx g1 n1 nx1 wr1 g n nx) => rid_put_ok (ver := ver) M (by omega) hA1 hva.out hr1.out hr2.out hr3.out hn.out)
                go_region_held3 (fun W' => (W'.cell? ⟨bx, 1, none⟩ = some (.int .i64 id) ∧ W'.cell? ⟨bx, 2, none⟩ = some (.int .i64 ver) ∧ W'.cell? ⟨bx, 3, none⟩ = some (.slice B vs.length cb)) ∧ W'.cell? ⟨yb, 0, none⟩ = some (.int .i64 id) ∧ W'.cell? ⟨yb, 1, none⟩ = some (.int .i64 ver) ∧ W'.cell? ⟨yb, 2, none⟩ = some (.slice vA vs.length vc)) (first | assumption | exact S0d) ((first
                  | (go_at_call 38; (first | with_reducible refine Calls.mono (SC.out _ _ _ _ My2.out) ?_ | with_reducible refine Calls.mono (SC.out _ _ _ _ MR.out) ?_); rintro e WS ⟨rfl, MS⟩; have CS := CY.out _ _ _ _ _ _ _ _ MS; replace MS := Lib.hid MS)
                  | (go_at_call 66; (first | with_reducible refine Calls.mono (RC.out _ _ _ _ _ My2.out) ?_ | with_reducible refine Calls.mono (RC.out _ _ _ _ _ MS.out) ?_); rintro e WR ⟨rfl, MR⟩; have CR := CY.out _ _ _ _ _ _ _ _ MR; replace MR := Lib.hid MR)))
                all_goals
                  clear SC RC
                  go_wp2
                  go_meet
                  first
                    | exact ⟨_, _, _, _, 0, 0, rfl, rfl, rfl, rfl, FY.out _ _ _ _ _ _ MR.out (hG.out.upd vok.out) nx0.out (.inl ⟨rfl, by decide, by decide, rfl⟩)⟩
                    | exact ⟨_, _, _, _, 0, 0, rfl, rfl, rfl, rfl, FY.out _ _ _ _ _ _ MS.out (hG.out.upd vok.out) nx0.out (.inl ⟨rfl, by decide, by decide, rfl⟩)⟩
              · replace hn : Hid (mx ≤ (n : Int)) := Lib.hid (by omega)
                as_aux_lemma =>
                have SC := Lib.hid (fun (W : World) h m nr (M : Mid w W Wy Vy p pr mx g n nx wq h m nr) => mid_put_full (ver := ver) M oy.out hid hr1.out hr2.out hr3.out hn.out)
                have RC := Lib.hid (fun (W : World) g1 n1 nx1 wr1 (M : Mid w W Wy Vy p pr mx g1 n1 nx1 wr1 g n nx) => rid_put_full (ver := ver) (A := B) (ca := cb) (l := vs) M hr1.out hr2.out hr3.out hn.out)
                go_region_held3 (fun W' => (W'.cell? ⟨bx, 1, none⟩ = some (.int .i64 id) ∧ W'.cell? ⟨bx, 2, none⟩ = some (.int .i64 ver) ∧ W'.cell? ⟨bx, 3, none⟩ = some (.slice B vs.length cb)) ∧ W'.cell? ⟨yb, 0, none⟩ = some (.int .i64 id) ∧ W'.cell? ⟨yb, 1, none⟩ = some (.int .i64 ver) ∧ W'.cell? ⟨yb, 2, none⟩ = some (.slice vA vs.length vc)) (first | assumption | exact S0d) ((first
                  | (go_at_call 38; (first | with_reducible refine Calls.mono (SC.out _ _ _ _ My2.out) ?_ | with_reducible refine Calls.mono (SC.out _ _ _ _ MR.out) ?_); rintro e WS ⟨rfl, MS⟩; have CS := CY.out _ _ _ _ _ _ _ _ MS; replace MS := Lib.hid MS)
                  | (go_at_call 66; (first | with_reducible refine Calls.mono (RC.out _ _ _ _ _ My2.out) ?_ | with_reducible refine Calls.mono (RC.out _ _ _ _ _ MS.out) ?_); rintro e WR ⟨rfl, MR⟩; have CR := CY.out _ _ _ _ _ _ _ _ MR; replace MR := Lib.hid MR)))
                all_goals
                  clear SC RC
                  go_wp2
                  go_meet
                  first
                    | exact ⟨_, _, _, _, 70, 0, rfl, rfl, rfl, rfl, FY.out _ _ _ _ _ _ MR.out hG.out nx0.out (.inr ⟨rfl, by omega⟩)⟩
                    | exact ⟨_, _, _, _, 70, 0, rfl, rfl, rfl, rfl, FY.out _ _ _ _ _ _ MS.out hG.out nx0.out (.inr ⟨rfl, by omega⟩)⟩
          · by_cases hr : id < 1 ∨ 4611686018427387904 < id ∨ ∃ x, g x ≠ none ∧ id ≤ x
            · replace hr := Lib.hid hr
              as_aux_lemma =>
              have SC := Lib.hid (fun (W : World) h m nr (M : Mid w W W2 V p pr mx g n nx wq h m nr) => mid_set_no M hr.out)
              have RC := Lib.hid (fun (W : World) g1 n1 nx1 wr1 (M : Mid w W W2 V p pr mx g1 n1 nx1 wr1 g n nx) => rid_set_no M hnm.out hr.out)
              go_upto_region 17 with fail
              go_region_held3 (fun W' => (W'.cell? ⟨bx, 1, none⟩ = some (.int .i64 id) ∧ W'.cell? ⟨bx, 2, none⟩ = some (.int .i64 ver) ∧ W'.cell? ⟨bx, 3, none⟩ = some (.slice B vs.length cb))) (first | assumption | exact S0d) ((first
                | (go_at_call 58; (first | with_reducible refine Calls.mono (SC.out _ _ _ _ M2d.out) ?_ | with_reducible refine Calls.mono (SC.out _ _ _ _ MR.out) ?_); rintro e WS ⟨rfl, MS⟩; have CS := (CB.out WS (MS.keep bx hVb.out)).2; replace MS := Lib.hid MS)
                | (go_at_call 67; (first | with_reducible refine Calls.mono (RC.out _ _ _ _ _ M2d.out) ?_ | with_reducible refine Calls.mono (RC.out _ _ _ _ _ MS.out) ?_); rintro e WR ⟨rfl, MR⟩; have CR := (CB.out WR (MR.keep bx hVb.out)).2; replace MR := Lib.hid MR)))
              all_goals
                clear SC RC
                go_wp2
                go_meet
                first
                  | exact ⟨_, _, _, _, 72, 0, rfl, rfl, rfl, rfl, FIN.out _ _ _ _ _ _ MR.out hG.out nx0.out (.inr ⟨rfl, fun c => hno.out ⟨c.1, c.2.1⟩⟩)⟩
                  | exact ⟨_, _, _, _, 72, 0, rfl, rfl, rfl, rfl, FIN.out _ _ _ _ _ _ MS.out hG.out nx0.out (.inr ⟨rfl, fun c => hno.out ⟨c.1, c.2.1⟩⟩)⟩
            · have hr1 : Hid (1 ≤ id) := Lib.hid (by omega)
              have hr2 : Hid (id ≤ 4611686018427387904) := Lib.hid (by omega)
              have hr3 : Hid (∀ x, g x ≠ none → x < id) := Lib.hid (fun x hx => by
                apply Classical.byContradiction
                intro c
                exact hr (.inr (.inr ⟨x, hx, by omega⟩)))
              clear hr
              as_aux_lemma =>
              have SC := Lib.hid (fun (W : World) h m nr (M : Mid w W W2 V p pr mx g n nx wq h m nr) => mid_set_ok M hr1.out hr2.out hr3.out)
              have RC := Lib.hid (fun (W : World) g1 n1 nx1 wr1 (M : Mid w W W2 V p pr mx g1 n1 nx1 wr1 g n nx) => rid_set_ok M hnm.out hr1.out hr2.out hr3.out)
              go_upto_region 17 with fail
              go_region_held3 (fun W' => (W'.cell? ⟨bx, 1, none⟩ = some (.int .i64 id) ∧ W'.cell? ⟨bx, 2, none⟩ = some (.int .i64 ver) ∧ W'.cell? ⟨bx, 3, none⟩ = some (.slice B vs.length cb))) (first | assumption | exact S0d) ((first
                | (go_at_call 58; (first | with_reducible refine Calls.mono (SC.out _ _ _ _ M2d.out) ?_ | with_reducible refine Calls.mono (SC.out _ _ _ _ MR.out) ?_); rintro e WS ⟨rfl, MS⟩; have CS := (CB.out WS (MS.keep bx hVb.out)).2; replace MS := Lib.hid MS)
                | (go_at_call 67; (first | with_reducible refine Calls.mono (RC.out _ _ _ _ _ M2d.out) ?_ | with_reducible refine Calls.mono (RC.out _ _ _ _ _ MS.out) ?_); rintro e WR ⟨rfl, MR⟩; have CR := (CB.out WR (MR.keep bx hVb.out)).2; replace MR := Lib.hid MR)))
              all_goals
                clear SC RC
                go_wp2
                go_meet
                first
                  | exact ⟨_, _, _, _, 0, 0, rfl, rfl, rfl, rfl, FIN.out _ _ _ _ _ _ MR.out hG.out (by have := hr2.out; omega) (.inr ⟨rfl, fun c => hno.out ⟨c.1, c.2.1⟩⟩)⟩
                  | exact ⟨_, _, _, _, 0, 0, rfl, rfl, rfl, rfl, FIN.out _ _ _ _ _ _ MS.out hG.out (by have := hr2.out; omega) (.inr ⟨rfl, fun c => hno.out ⟨c.1, c.2.1⟩⟩)⟩
        case rest =>
          obtain ⟨g', n', nx', wq', er, a, rfl, rfl, rfl, rfl, hA, hB⟩ := hcut
          have hbx3 : Blk wc bx #[.int .i64 what, .int .i64 id, .int .i64 ver, .slice B vs.length cb] 112 := hB.out.1.trans hbx2.out
          have ov := Lib.hid hB.out.2
          clear y0 y1 y2 y3 hbx2 hB M2 o2 hG
          have hbxV : Hid (∀ k, (Value.slice vA vs.length vc).ownBlock = some k → V k) := Lib.hid (fun k e => by rw [← hV.out]; exact .inr e)
          have hA0 := Lib.hid hA.out.mid
          have hdat : Hid (Good g' ∧ nx' ≤ 4611686018427387904 + (i + 1 : Nat) ∧ ((wq' = wq + 1 ∧ 0 ≤ what ∧ what ≤ 6 ∧ er = 0) ∨ (wq' = wq ∧ ¬ (0 ≤ what ∧ what ≤ 6 ∧ er = 0)))) := Lib.hid ⟨hA.out.good, hA.out.nxb, hA.out.told⟩
          have hcs : Hid (0 < vs.length → ∃ gv cs t, vA = some ⟨gv, 0, none⟩ ∧ gv ≠ bx ∧ V gv ∧ Blk wc gv cs t ∧ vs.length * 4 ≤ cs.size) := Lib.hid (fun h0 => by
            rcases ov.out.own.2 with ⟨e2, e3⟩ | ⟨g9, cp, cur, e2, _, hgg, hn, hm, hs, _⟩
            · omega
            · injection e2 with e4 _ e5
              subst e4
              exact ⟨g9, cur, _, rfl, by have := hne.out g9 rfl; omega, hbxV.out g9 rfl, hgg, by omega⟩)
          replace hbx3 := Lib.hid hbx3
          have hwq0 := hwb
          clear hA ov hwb hnb hok hva hA1
          go_upto_block 3 with fail
          go_cut [16] from 123 to 132 (fun s16 W => Hid (Mid w W W V p pr mx g' n' nx' wq' g' n' nx' ∧ Blk W bx #[.int .i64 what, .int .i64 id, .int .i64 ver, .slice B vs.length cb] 112))
          case first =>
            as_aux_lemma =>
            -- <L2
            go_wp2_with fail
            go_loopg [16] vs.length (fun k s16 W => ∃ j : Nat, k = vs.length - j ∧ j ≤ vs.length ∧ s16 = .int .i64 (j : Nat) ∧ Hid (Mid w W W V p pr mx g' n' nx' wq' g' n' nx' ∧ Blk W bx #[.int .i64 what, .int .i64 id, .int .i64 ver, .slice B vs.length cb] 112 ∧ (0 < vs.length → ∃ gv cs t, vA = some ⟨gv, 0, none⟩ ∧ gv ≠ bx ∧ V gv ∧ Blk W gv cs t ∧ vs.length * 4 ≤ cs.size)))
            case atStart => exact ⟨0, by omega, by omega, rfl, Lib.hid ⟨hA0.out, hbx3.out, hcs.out⟩⟩
            case round =>
              as_aux_lemma =>
              obtain ⟨j, rfl, hj, rfl, hL⟩ := hrel
              clear hcs hA0 hbx3
              by_cases hlt : j < vs.length
              · have hlt' : (j : Int) < (vs.length : Int) := by omega
                obtain ⟨gv, cs, t, rfl, hgb, hVg, hcv, hsz⟩ := hL.out.2.2 (by omega)
                have hLm := Lib.hid hL.out.1
                have hLb := Lib.hid hL.out.2.1
                have c0 : wr.cell? ⟨gv, j * 4, none⟩ = some cs[j * 4] := (hcv.cell (j * 4)).trans (Array.getElem?_eq_getElem (by omega))
                have c1 : wr.cell? ⟨gv, j * 4 + 1, none⟩ = some cs[j * 4 + 1] := (hcv.cell (j * 4 + 1)).trans (Array.getElem?_eq_getElem (by omega))
                have c2 : wr.cell? ⟨gv, j * 4 + 2, none⟩ = some cs[j * 4 + 2] := (hcv.cell (j * 4 + 2)).trans (Array.getElem?_eq_getElem (by omega))
                have c3 : wr.cell? ⟨gv, j * 4 + 3, none⟩ = some cs[j * 4 + 3] := (hcv.cell (j * 4 + 3)).trans (Array.getElem?_eq_getElem (by omega))
                have fz : ∀ o, wr.frozen? ⟨gv, o, none⟩ = false := fun o => hcv.free o
                generalize cs[j * 4] = d0 at *
                generalize cs[j * 4 + 1] = d1 at *
                generalize cs[j * 4 + 2] = d2 at *
                generalize cs[j * 4 + 3] = d3 at *
                replace hcv := Lib.hid hcv
                replace hgb := Lib.hid hgb
                replace hVg := Lib.hid hVg
                replace hsz := Lib.hid hsz
                clear hL
                go_wp2
                go_roundg (vs.length - (j + 1))
                case measure => omega
                case rel =>
                  refine ⟨j + 1, rfl, by omega, by go_num, Lib.hid ⟨hLm.out.wrote ?_, ((((hLb.out.set_other hgb.out _).set_other hgb.out _).set_other hgb.out _).set_other hgb.out _), fun _ => ⟨gv, _, t, rfl, hgb.out, hVg.out, (((hcv.out.set _ _).set _ _).set _ _).set _ _, ?_⟩⟩⟩
                  · exact (((Chg.set _ _ hVg.out).then (Chg.set _ _ hVg.out)).then (Chg.set _ _ hVg.out)).then (Chg.set _ _ hVg.out)
                  · simp only [Array.size_setIfInBounds]; exact hsz.out
              · have hlt' : ((j : Int) < (vs.length : Int)) = False := eq_false (by omega)
                go_wp2
                go_meet
                exact Lib.hid ⟨hL.out.1, hL.out.2.1⟩
            -- L2>
          case rest =>
            have hM := Lib.hid hcut.out.1
            have hb3 := Lib.hid hcut.out.2
            have hle := Lib.hid hcut.out.1.le
            clear hcut hcs hA0 hbx3 hbxV
            obtain ⟨sl, hsl⟩ : ∃ sl : Bool, Hid ((sl = true ∧ wq' = wq + 1 ∧ 0 ≤ what ∧ what ≤ 6 ∧ er = 0) ∨ (sl = false ∧ wq' = wq ∧ ¬ (0 ≤ what ∧ what ≤ 6 ∧ er = 0))) := by
              rcases hdat.out.2.2 with q | q
              · exact ⟨true, Lib.hid (.inl ⟨rfl, q⟩)⟩
              · exact ⟨false, Lib.hid (.inr ⟨rfl, q⟩)⟩
            have y0 : wc.cell? ⟨bx, 0, none⟩ = some (.int .i64 what) := hb3.out.cell 0
            have WR := Lib.hid (mid_wri hM.out)
            go_wp2_with fail
            refine WR.out.mono ?_
            rintro e w' ⟨rfl, rfl⟩
            clear WR
            go_upto_region 36 with fail
            go_cut [18] from 135 to 146 (fun s18 W => s18 = .bool sl ∧ W = wc)
            case first =>
              as_aux_lemma =>
              rcases hsl.out with ⟨rfl, e1, e2, e3, e4⟩ | ⟨rfl, e1, e2⟩
              · subst e4
                clear hsl hdat e1
                go_wp2
                go_meet
                exact ⟨rfl, rfl⟩
              · clear hsl hdat e1
                by_cases a1 : 0 ≤ what
                · by_cases a2 : what ≤ 6
                  · have a3 : (er == 0) = false := bne9 (by omega)
                    clear e2
                    go_wp2
                    go_meet
                    exact ⟨rfl, rfl⟩
                  · have a3 : (what ≤ 6) = False := eq_false a2
                    clear e2 a2
                    go_wp2
                    go_meet
                    exact ⟨rfl, rfl⟩
                · have a3 : (0 ≤ what) = False := eq_false a1
                  clear e2 a1
                  go_wp2
                  go_meet
                  exact ⟨rfl, rfl⟩
            case rest =>
              obtain ⟨rfl, rfl⟩ := hcut
              obtain ⟨LA, lc, c0, c2, hprl, ALL⟩ := mid_view hM.out hdat.out.1 hle.out.1
              have SK : ∀ W' w', (W'.cell? ⟨pr, 0, none⟩ = some (.slice LA n' lc) ∧ W'.cell? ⟨pr, 2, none⟩ = some (.int .i64 nx') ∧ Below wc.heap.size wc W') → Below W'.heap.size W' w' → (w'.cell? ⟨pr, 0, none⟩ = some (.slice LA n' lc) ∧ w'.cell? ⟨pr, 2, none⟩ = some (.int .i64 nx') ∧ Below wc.heap.size wc w') := by
                rintro W' w' ⟨a0, a1, a2⟩ b
                have q : ∀ j, w'.cell? ⟨pr, j, none⟩ = W'.cell? ⟨pr, j, none⟩ := fun j => b.cell (p := ⟨pr, j, none⟩) (Nat.lt_of_lt_of_le hprl a2.size)
                exact ⟨(q 0).trans a0, (q 2).trans a1, a2.trans (b.mono a2.size)⟩
              have S0 : (wc.cell? ⟨pr, 0, none⟩ = some (.slice LA n' lc) ∧ wc.cell? ⟨pr, 2, none⟩ = some (.int .i64 nx') ∧ Below wc.heap.size wc wc) := ⟨c0, c2, Below.refl _ _⟩
              have S0d : (wc.drew.cell? ⟨pr, 0, none⟩ = some (.slice LA n' lc) ∧ wc.drew.cell? ⟨pr, 2, none⟩ = some (.int .i64 nx') ∧ Below wc.heap.size wc wc.drew) := ⟨c0, c2, Below.drew (Below.refl _ _)⟩
              have AL8 := Lib.hid (fun W' (h : (W'.cell? ⟨pr, 0, none⟩ = some (.slice LA n' lc) ∧ W'.cell? ⟨pr, 2, none⟩ = some (.int .i64 nx') ∧ Below wc.heap.size wc W')) => show Calls Try.prog 60 #[.pointer (some ⟨p, 0, none⟩)] W' fun e w' => ∃ A' c', e = .returned (.slice A' n' c') ∧ Hid (∀ W, Below w'.heap.size w' W → Gives Try.prog 68 #[.slice A' n' c', .slice LA n' lc] W (.bool true)) ∧ (w'.cell? ⟨pr, 0, none⟩ = some (.slice LA n' lc) ∧ w'.cell? ⟨pr, 2, none⟩ = some (.int .i64 nx') ∧ Below wc.heap.size wc w') from by
                obtain ⟨LA2, lc2, d0, _, _, hh⟩ := mid_view (hM.out.below h.2.2) hdat.out.1 hle.out.1
                have e0 := h.1
                rw [e0] at d0
                injection d0 with d0
                injection d0 with d1 d2 d3
                subst d1 d3
                exact hh.mono fun e w' ⟨A', c', q1, q2, q3⟩ => ⟨A', c', q1, Lib.hid q3, SK _ _ h q2⟩)
              have SM8 := Lib.hid (fun W' A' c' (h : (W'.cell? ⟨pr, 0, none⟩ = some (.slice LA n' lc) ∧ W'.cell? ⟨pr, 2, none⟩ = some (.int .i64 nx') ∧ Below wc.heap.size wc W')) (hs : Hid (∀ W, Below W'.heap.size W' W → Gives Try.prog 68 #[.slice A' n' c', .slice LA n' lc] W (.bool true))) => (hs.out W' (Below.refl _ _)).mono (fun e w' h2 => (show e = .returned (.bool true) ∧ (w'.cell? ⟨pr, 0, none⟩ = some (.slice LA n' lc) ∧ w'.cell? ⟨pr, 2, none⟩ = some (.int .i64 nx') ∧ Below wc.heap.size wc w') from ⟨h2.1, SK _ _ h (by obtain ⟨z, hz⟩ := h2.2; rw [hz]; exact more_below _ z)⟩)))
              have LN8 := Lib.hid (fun W' (h : (W'.cell? ⟨pr, 0, none⟩ = some (.slice LA n' lc) ∧ W'.cell? ⟨pr, 2, none⟩ = some (.int .i64 nx') ∧ Below wc.heap.size wc W')) => (mid_len (hM.out.below h.2.2)).mono (fun e w' h2 => (show e = .returned (.int .i64 n') ∧ (w'.cell? ⟨pr, 0, none⟩ = some (.slice LA n' lc) ∧ w'.cell? ⟨pr, 2, none⟩ = some (.int .i64 nx') ∧ Below wc.heap.size wc w') from ⟨h2.1, h2.2 ▸ h⟩)))
              have NX8 := Lib.hid (fun W' (h : (W'.cell? ⟨pr, 0, none⟩ = some (.slice LA n' lc) ∧ W'.cell? ⟨pr, 2, none⟩ = some (.int .i64 nx') ∧ Below wc.heap.size wc W')) => (mid_next (hM.out.below h.2.2)).mono (fun e w' h2 => (show e = .returned (.int .i64 nx') ∧ (w'.cell? ⟨pr, 0, none⟩ = some (.slice LA n' lc) ∧ w'.cell? ⟨pr, 2, none⟩ = some (.int .i64 nx') ∧ Below wc.heap.size wc w') from ⟨h2.1, h2.2 ▸ h⟩)))
              have hwq : Hid (0 ≤ wq' ∧ wq' ≤ (i + 1 : Nat)) := Lib.hid (by
                have h1 := hwq0.out
                rcases hsl.out with ⟨_, e, _⟩ | ⟨_, e, _⟩ <;> omega)
              clear ALL hprl SK
              go_upto_region 37 with fail
              go_cut [201] from 147 to 201 (fun s201 W => s201 = .bool false ∧ Hid (Mid w W W V p pr mx g' n' nx' wq' g' n' nx' ∧ Blk W bx #[.int .i64 what, .int .i64 id, .int .i64 ver, .slice B vs.length cb] 112))
              case first =>
                as_aux_lemma =>
                -- <37
                have hfin := Lib.hid (show ∀ W', (W'.cell? ⟨pr, 0, none⟩ = some (.slice LA n' lc) ∧ W'.cell? ⟨pr, 2, none⟩ = some (.int .i64 nx') ∧ Below wc.heap.size wc W') → Hid (Mid w W' W' V p pr mx g' n' nx' wq' g' n' nx' ∧ Blk W' bx #[.int .i64 what, .int .i64 id, .int .i64 ver, .slice B vs.length cb] 112) from fun W hW => Lib.hid ⟨(hM.out.below hW.2.2).rebase (fun k h => h), hb3.out.below hW.2.2 hb3.out.lt⟩)
                have hq0 := hwq0.out
                have hwr3 : IntKind.i64.wrap (wq + 2) = wq + 2 := IntWalk.i64_in _ (by omega)
                have hcase : (sl = true ∧ wq' = wq + 1 ∧ Hid ((wq < wq + 1) = True ∧ decide (wq < wq + 1) = true ∧ (IntKind.i64.wrap (wq + 2) < wq + 1) = False ∧ decide (IntKind.i64.wrap (wq + 2) < wq + 1) = false ∧ (wq + 1 < wq) = False ∧ decide (wq + 1 < wq) = false)) ∨ (sl = false ∧ wq = wq' ∧ Hid ((wq < wq) = False ∧ decide (wq < wq) = false ∧ (IntKind.i64.wrap (wq + 2) < wq) = False ∧ decide (IntKind.i64.wrap (wq + 2) < wq) = false ∧ (wq < wq) = False ∧ decide (wq < wq) = false)) := by
                  rw [hwr3]
                  rcases hsl.out with ⟨e0, e, _⟩ | ⟨e0, e, _⟩
                  · exact .inl ⟨e0, e, Lib.hid ⟨eq_true (by omega), decide_eq_true (by omega), eq_false (by omega), decide_eq_false (by omega), eq_false (by omega), decide_eq_false (by omega)⟩⟩
                  · exact .inr ⟨e0, e.symm, Lib.hid ⟨eq_false (by omega), decide_eq_false (by omega), eq_false (by omega), decide_eq_false (by omega), eq_false (by omega), decide_eq_false (by omega)⟩⟩
                clear hsl hdat hM hb3 y0 hle hwq hq0 hwr3
                rcases hcase with ⟨rfl, rfl, hgs⟩ | ⟨rfl, rfl, hgs⟩
                all_goals
                  obtain ⟨g1, g2, g3, g4, g5, g6⟩ := hgs.out
                  clear hgs
                  go_region_held3 (fun W' => (W'.cell? ⟨pr, 0, none⟩ = some (.slice LA n' lc) ∧ W'.cell? ⟨pr, 2, none⟩ = some (.int .i64 nx') ∧ Below wc.heap.size wc W')) (first | assumption | exact S0d) ((first
                    | (go_at_call 60; with_reducible refine Calls.mono (AL8.out _ (by assumption)) ?_; rintro e w5 ⟨A5, c5, rfl, hS5, hC5⟩)
                    | (go_at_call 68; with_reducible refine Calls.mono (SM8.out _ _ _ (by assumption) hS5) ?_; rintro e w6 ⟨rfl, hC6⟩)
                    | (go_at_call 36; with_reducible refine Calls.mono (LN8.out _ (by assumption)) ?_; rintro e w7 ⟨rfl, hC7⟩)
                    | (go_at_call 56; with_reducible refine Calls.mono (NX8.out _ (by assumption)) ?_; rintro e w8 ⟨rfl, hC8⟩)))
                  all_goals
                    go_wp2
                    go_meet
                    exact ⟨rfl, hfin.out _ (by assumption)⟩
                -- 37>
              case rest =>
                as_aux_lemma =>
                obtain ⟨rfl, hW⟩ := hcut
                have hM3 := Lib.hid hW.out.1
                have y1 : wc.cell? ⟨bx, 1, none⟩ = some (.int .i64 id) := hW.out.2.cell 1
                have GT := Lib.hid (mid_get9 hM3.out hid)
                have hbw := Lib.hid hM3.out.bel
                clear hM hb3 y0 AL8 SM8 LN8 NX8 S0 S0d c0 c2
                go_wp2_with fail
                refine GT.out.mono ?_
                rintro e W3 ⟨ok, pver, pid, pA, pc, vl, rfl, own3, hB3, hgc⟩
                have hbx3 : Blk W3 bx #[.int .i64 what, .int .i64 id, .int .i64 ver, .slice B vs.length cb] 112 := hW.out.2.below hB3 hW.out.2.lt
                obtain ⟨pb, hpb⟩ : ∃ pb, pb = W3.heap.size := ⟨_, rfl⟩
                have M3 : Hid (Mid w W3 W3 (fun k => (Value.slice pA vl.length pc).ownBlock = some k) p pr mx g' n' nx' wq' g' n' nx') := Lib.hid (hM3.out.fresh hB3 (fun k hk => .inr ⟨own_ge own3 k hk, own_lt9 own3 k hk⟩))
                have own3l := Lib.hid (own_lt9 own3)
                have own3v := Lib.hid own3
                clear hM3 GT hB3 hW y1
                go_upto_region 41 with fail
                refine wp_named9 (R := fun W => Mid w W W (fun k => (Value.slice pA vl.length pc).ownBlock = some k) p pr mx g' n' nx' wq' g' n' nx' ∧ Blk W pb #[.int .i64 pid, .int .i64 pver, .slice pA vl.length pc] 63 ∧ W.ownsRow 0 103 4 (.slice pA vl.length pc) vl.length (cellsOf vl) ∧ Blk W bx #[.int .i64 what, .int .i64 id, .int .i64 ver, .slice B vs.length cb] 112) ?_ ?_
                · have hb : Below W3.heap.size W3 (W3.alloc (.cells #[.int .i64 pid, .int .i64 pver, .slice pA vl.length pc] 63)) := (by repeat (first | (with_reducible exact Below.refl _ _) | (with_reducible refine Below.drew ?_) | (with_reducible refine Below.alloc ?_ (by simp [more_size]; try omega) _) | (with_reducible refine Below.setCell ?_ (by simp [more_size]; try omega) _) | (with_reducible refine below_more ?_ _ (by simp [more_size]; try omega))))
                  exact ⟨(M3.out.below hb).rebase (fun k h => h), Blk.new _ _ _ hpb, own_same (own_lower own3 (Nat.zero_le _)) (fun k e => hb.block k (own3l.out k e)), hbx3.below hb hbx3.lt⟩
                have hpk := Lib.hid (fun k hk => Nat.lt_of_lt_of_eq (own3l.out k hk) hpb.symm)
                clear own3 M3 own3l hbx3 own3v
                rintro W4 ⟨hM4, hpb4, own4, hbx4⟩
                rw [← hpb]
                have y1 : W4.cell? ⟨bx, 1, none⟩ = some (.int .i64 id) := hbx4.cell 1
                replace hpb4 := Lib.hid hpb4
                replace own4 := Lib.hid own4
                replace hM4 := Lib.hid hM4
                have RG := Lib.hid (rid_get9 hM4.out hgc.out)
                clear hbx4 hpb
                go_wp2_with fail
                refine RG.out.mono ?_
                rintro e W5 ⟨qid, qver, qA, qc, ql, rfl, hB5, hq5⟩
                obtain ⟨qb, hqb⟩ : ∃ qb, qb = W5.heap.size := ⟨_, rfl⟩
                have hM5 := Lib.hid (hM4.out.below hB5)
                have own5 := Lib.hid (own_same own4.out (fun k e => hB5.block k (own_lt9 own4.out k e)))
                have hpb5 := Lib.hid (hpb4.out.below hB5 hpb4.out.lt)
                clear RG y1 hpb4 hM4 own4 hB5
                go_upto_region 42 with fail
                refine wp_named9 (R := fun W => Mid w W W (fun k => (Value.slice pA vl.length pc).ownBlock = some k) p pr mx g' n' nx' wq' g' n' nx' ∧ Blk W pb #[.int .i64 pid, .int .i64 pver, .slice pA vl.length pc] 63 ∧ W.ownsRow 0 103 4 (.slice pA vl.length pc) vl.length (cellsOf vl) ∧ Blk W qb #[.int .i64 qid, .int .i64 qver, .slice qA ql.length qc] 63 ∧ Hid (ok = true → qid = pid ∧ qver = pver ∧ ql = vl ∧ ValsIn W qA vl)) ?_ ?_
                · have hb : Below W5.heap.size W5 (W5.alloc (.cells #[.int .i64 qid, .int .i64 qver, .slice qA ql.length qc] 63)) := (by repeat (first | (with_reducible exact Below.refl _ _) | (with_reducible refine Below.drew ?_) | (with_reducible refine Below.alloc ?_ (by simp [more_size]; try omega) _) | (with_reducible refine Below.setCell ?_ (by simp [more_size]; try omega) _) | (with_reducible refine below_more ?_ _ (by simp [more_size]; try omega))))
                  exact ⟨(hM5.out.below hb).rebase (fun k h => h), hpb5.out.below hb hpb5.out.lt, own_same own5.out (fun k e => hb.block k (own_lt9 own5.out k e)), Blk.new _ _ _ hqb, Lib.hid (fun c => ⟨(hq5.out c).1, (hq5.out c).2.1, (hq5.out c).2.2.1, (hq5.out c).2.2.2.below hb⟩)⟩
                rintro W6 ⟨hM6, hpb6, own6, hqb6, hq6⟩
                rw [← hqb]
                clear hM5 own5 hpb5 hq5 hqb
                have z0 : W6.cell? ⟨pb, 0, none⟩ = some (.int .i64 pid) := hpb6.cell 0
                have z1 : W6.cell? ⟨pb, 1, none⟩ = some (.int .i64 pver) := hpb6.cell 1
                have z2 : W6.cell? ⟨pb, 2, none⟩ = some (.slice pA vl.length pc) := hpb6.cell 2
                have q0 : W6.cell? ⟨qb, 0, none⟩ = some (.int .i64 qid) := hqb6.cell 0
                have q1 : W6.cell? ⟨qb, 1, none⟩ = some (.int .i64 qver) := hqb6.cell 1
                have q2 : W6.cell? ⟨qb, 2, none⟩ = some (.slice qA ql.length qc) := hqb6.cell 2
                replace hpb6 := Lib.hid hpb6
                replace own6 := Lib.hid own6
                replace hM6 := Lib.hid hM6
                clear hqb6
                go_cut [228] from 217 to 228 (fun s228 W => s228 = .bool false ∧ Below W6.heap.size W6 W)
                case first =>
                  as_aux_lemma =>
                  cases ok with
                  | false =>
                    clear hq6
                    go_wp2
                    go_meet
                    exact ⟨rfl, (by repeat (first | (with_reducible exact Below.refl _ _) | (with_reducible refine Below.drew ?_) | (with_reducible refine Below.alloc ?_ (by simp [more_size]; try omega) _) | (with_reducible refine Below.setCell ?_ (by simp [more_size]; try omega) _) | (with_reducible refine below_more ?_ _ (by simp [more_size]; try omega))))⟩
                  | true =>
                    obtain ⟨rfl, rfl, rfl, hqv⟩ := hq6.out rfl
                    have hgd : allOk ql ∧ ql.length ≤ 1000 := by
                      rcases hgc.out with ⟨c, _⟩ | ⟨_, _, c⟩
                      · cases c
                      · exact hdat.out.1 _ _ c
                    have hpv : ValsIn W6 pA ql := by
                      obtain ⟨A9, c9, e9, _, _, _, hv9⟩ := own_vals own6.out
                      injection e9 with e9
                      subst e9
                      exact hv9
                    have SR := Lib.hid (samerow_any qid qver pA qA pc qc ql hgd.1 hgd.2 W6 hpv hqv)
                    clear hq6 hqv hgd hpv
                    go_wp2_with fail
                    refine SR.out.mono' ?_; intro z
                    go_wp2
                    go_meet
                    exact ⟨rfl, more_below W6 z⟩
                case rest =>
                  as_aux_lemma =>
                  obtain ⟨rfl, hb7⟩ := hcut
                  have hM7 := Lib.hid ((hM6.out.below hb7).rebase (fun k h => h))
                  have hpb7 := Lib.hid (hpb6.out.below hb7 hpb6.out.lt)
                  have own7 := Lib.hid (own_same own6.out (fun k e => hb7.block k (own_lt9 own6.out k e)))
                  clear hM6 hpb6 own6 hb7 z0 z1 z2 q0 q1 q2 hq6
                  have hcs : Hid (0 < vl.length → ∃ gv cs t, pA = some ⟨gv, 0, none⟩ ∧ gv ≠ pb ∧ Blk wc gv cs t ∧ vl.length * 4 ≤ cs.size) := Lib.hid (fun h0 => by
                    rcases own7.out.2 with ⟨e2, e3⟩ | ⟨g9, cp, cur, e2, _, hgg, hn, hm, hs, _⟩
                    · omega
                    · injection e2 with e4 _ e5
                      subst e4
                      exact ⟨g9, cur, _, rfl, by have := hpk.out g9 rfl; omega, hgg, by omega⟩)
                  have hvl : vl.length ≤ 1000 := by
                    rcases hgc.out with ⟨_, _, c⟩ | ⟨_, _, c⟩
                    · rw [c]; simp
                    · exact (hdat.out.1 _ _ c).2
                  go_wp2_with fail
                  go_loopg [23] vl.length (fun k s23 W => ∃ j : Nat, k = vl.length - j ∧ j ≤ vl.length ∧ s23 = .int .i64 (j : Nat) ∧ Hid (Mid w W W (fun k => (Value.slice pA vl.length pc).ownBlock = some k) p pr mx g' n' nx' wq' g' n' nx' ∧ Blk W pb #[.int .i64 pid, .int .i64 pver, .slice pA vl.length pc] 63 ∧ (0 < vl.length → ∃ gv cs t, pA = some ⟨gv, 0, none⟩ ∧ gv ≠ pb ∧ Blk W gv cs t ∧ vl.length * 4 ≤ cs.size)))
                  case atStart => exact ⟨0, by omega, by omega, rfl, Lib.hid ⟨hM7.out, hpb7.out, hcs.out⟩⟩
                  case round =>
                    as_aux_lemma =>
                    obtain ⟨j, rfl, hj, rfl, hL⟩ := hrel
                    clear hcs hM7 hpb7 own7
                    have z2 : wr.cell? ⟨pb, 2, none⟩ = some (.slice pA vl.length pc) := hL.out.2.1.cell 2
                    by_cases hlt : j < vl.length
                    · have hlt' : (j : Int) < (vl.length : Int) := by omega
                      obtain ⟨gv, cs, t, rfl, hgb, hcv, hsz⟩ := hL.out.2.2 (by omega)
                      have hVg : Hid ((fun k => (Value.slice (some ⟨gv, 0, none⟩) vl.length pc).ownBlock = some k) gv) := Lib.hid rfl
                      have hLm := Lib.hid hL.out.1
                      have hLb := Lib.hid hL.out.2.1
                      have c0 : wr.cell? ⟨gv, j * 4, none⟩ = some cs[j * 4] := (hcv.cell (j * 4)).trans (Array.getElem?_eq_getElem (by omega))
                      have c1 : wr.cell? ⟨gv, j * 4 + 1, none⟩ = some cs[j * 4 + 1] := (hcv.cell (j * 4 + 1)).trans (Array.getElem?_eq_getElem (by omega))
                      have c2 : wr.cell? ⟨gv, j * 4 + 2, none⟩ = some cs[j * 4 + 2] := (hcv.cell (j * 4 + 2)).trans (Array.getElem?_eq_getElem (by omega))
                      have c3 : wr.cell? ⟨gv, j * 4 + 3, none⟩ = some cs[j * 4 + 3] := (hcv.cell (j * 4 + 3)).trans (Array.getElem?_eq_getElem (by omega))
                      have fz : ∀ o, wr.frozen? ⟨gv, o, none⟩ = false := fun o => hcv.free o
                      generalize cs[j * 4] = d0 at *
                      generalize cs[j * 4 + 1] = d1 at *
                      generalize cs[j * 4 + 2] = d2 at *
                      generalize cs[j * 4 + 3] = d3 at *
                      replace hcv := Lib.hid hcv
                      replace hgb := Lib.hid hgb
                      replace hsz := Lib.hid hsz
                      clear hL hgc
                      go_wp2
                      go_roundg (vl.length - (j + 1))
                      case measure => omega
                      case rel =>
                        refine ⟨j + 1, rfl, by omega, by go_num, Lib.hid ⟨hLm.out.wrote ?_, ((((hLb.out.set_other hgb.out _).set_other hgb.out _).set_other hgb.out _).set_other hgb.out _), fun _ => ⟨gv, _, t, rfl, hgb.out, (((hcv.out.set _ _).set _ _).set _ _).set _ _, ?_⟩⟩⟩
                        · exact (((Chg.set _ _ hVg.out).then (Chg.set _ _ hVg.out)).then (Chg.set _ _ hVg.out)).then (Chg.set _ _ hVg.out)
                        · simp only [Array.size_setIfInBounds]; exact hsz.out
                    · have hlt' : ((j : Int) < (vl.length : Int)) = False := eq_false (by omega)
                      have hfin : Hid (Rnd w wr wr (fun _ => False) p pr mx (i + 1) g' n' nx' wq') := Lib.hid ⟨hL.out.1.rebase (fun k h => h.elim), hdat.out.1, hwq.out, hdat.out.2.1⟩
                      clear hL hgc
                      go_wp2
                      go_roundg (l.length - (i + 1))
                      case measure => omega
                      case rel => exact ⟨i + 1, g', n', nx', wq', rfl, by omega, by go_num, rfl, hfin⟩
    · as_aux_lemma =>
      have h1' : ((i : Int) < (l.length : Int)) = False := eq_false (by omega)
      have hM := Lib.hid hI.out.mid
      have hG := Lib.hid hI.out.good
      have hle := Lib.hid hI.out.mid.le
      obtain ⟨LA, lc, c0, c2, hprl, ALL⟩ := mid_view hM.out hG.out hle.out.1
      have SK : ∀ W' w', (W'.cell? ⟨pr, 0, none⟩ = some (.slice LA n lc) ∧ Below wr.heap.size wr W') → Below W'.heap.size W' w' → (w'.cell? ⟨pr, 0, none⟩ = some (.slice LA n lc) ∧ Below wr.heap.size wr w') := by
        rintro W' w' ⟨a0, a2⟩ b
        have q : ∀ j, w'.cell? ⟨pr, j, none⟩ = W'.cell? ⟨pr, j, none⟩ := fun j => b.cell (p := ⟨pr, j, none⟩) (Nat.lt_of_lt_of_le hprl a2.size)
        exact ⟨(q 0).trans a0, a2.trans (b.mono a2.size)⟩
      have S0d : (wr.drew.cell? ⟨pr, 0, none⟩ = some (.slice LA n lc) ∧ Below wr.heap.size wr wr.drew) := ⟨c0, Below.drew (Below.refl _ _)⟩
      have AL8 := Lib.hid (fun W' (h : (W'.cell? ⟨pr, 0, none⟩ = some (.slice LA n lc) ∧ Below wr.heap.size wr W')) => show Calls Try.prog 60 #[.pointer (some ⟨p, 0, none⟩)] W' fun e w' => ∃ A' c', e = .returned (.slice A' n c') ∧ Hid (∀ W, Below w'.heap.size w' W → Gives Try.prog 68 #[.slice A' n c', .slice LA n lc] W (.bool true)) ∧ (w'.cell? ⟨pr, 0, none⟩ = some (.slice LA n lc) ∧ Below wr.heap.size wr w') from by
        obtain ⟨LA2, lc2, d0, _, _, hh⟩ := mid_view (hM.out.below h.2) hG.out hle.out.1
        have e0 := h.1
        rw [e0] at d0
        injection d0 with d0
        injection d0 with d1 d2 d3
        subst d1 d3
        exact hh.mono fun e w' ⟨A', c', q1, q2, q3⟩ => ⟨A', c', q1, Lib.hid q3, SK _ _ h q2⟩)
      have SM8 := Lib.hid (fun W' A' c' (h : (W'.cell? ⟨pr, 0, none⟩ = some (.slice LA n lc) ∧ Below wr.heap.size wr W')) (hs : Hid (∀ W, Below W'.heap.size W' W → Gives Try.prog 68 #[.slice A' n c', .slice LA n lc] W (.bool true))) => (hs.out W' (Below.refl _ _)).mono (fun e w' h2 => (show e = .returned (.bool true) ∧ (w'.cell? ⟨pr, 0, none⟩ = some (.slice LA n lc) ∧ Below wr.heap.size wr w') from ⟨h2.1, SK _ _ h (by obtain ⟨z, hz⟩ := h2.2; rw [hz]; exact more_below _ z)⟩)))
      have fin := Lib.hid (show ∀ W', (W'.cell? ⟨pr, 0, none⟩ = some (.slice LA n lc) ∧ Below wr.heap.size wr W') → ∃ x, W' = more w x from fun W' h => more_of_below (hbel.out.trans (h.2.mono hbel.out.size)))
      clear ALL hprl SK hI hM hG hle hbel c2
      go_upto_region 48 with fail
      go_region_held3 (fun W' => (W'.cell? ⟨pr, 0, none⟩ = some (.slice LA n lc) ∧ Below wr.heap.size wr W')) (first | assumption | exact S0d) ((first
        | (go_at_call 60; with_reducible refine Calls.mono (AL8.out _ (by assumption)) ?_; rintro e w5 ⟨A5, c5, rfl, hS5, hC5⟩)
        | (go_at_call 68; with_reducible refine Calls.mono (SM8.out _ _ _ (by assumption) hS5) ?_; rintro e w6 ⟨rfl, hC6⟩)))
      all_goals
        go_wp2
        go_ret
        exact ⟨rfl, fin.out _ (by assumption)⟩
theorem law_RowPlays (v0 v1 : Value) (w : World) (h0 : IsI64 v0) (h1 : IsStps w v1) :
    Calls Try.prog 15 #[v0, v1] w fun e w' => e = .returned (.bool true) ∧ Below w.heap.size w w' := by
  obtain ⟨room, rfl, _⟩ := h0
  obtain ⟨A, ca, l, rfl, la, lc, hA, hl, ha⟩ := h1
  exact law_of (walk_RowPlays room A ca l w (by omega) hl ha)
end Go.Proofs.Ytilpgojkbgbinaa
