/- append of a whole row, nil or not, to a row that a call owns. -/
import Derived.Test.YtijegkiapbmekaaInsert
import Derived.Maps.AppendAt
import Derived.Laws.AppendOwnNone
set_option maxRecDepth 100000
set_option linter.unusedVariables false
set_option linter.unusedSimpArgs false
namespace Go.Proofs.Ytijegkiapbmekaa
open Go.RowKit
theorem rowIn_news {α : Type} {c : α → List Value} {s : Nat} {w : World} {A : Option Addr} {l : List α} (hc : ∀ a, (c a).length = s) (hs : 0 < s) (h : RowIn c s w A l) : ∀ ad, A = some ad → ∀ j u, (rowC c l)[j]? = some u → w.cell? (ad.add j) = some u := by
  intro ad e k u hu
  have hk : k < l.length * s := by
    rcases Nat.lt_or_ge k (rowC c l).length with q | q
    · rwa [rowC_length hc] at q
    · rw [List.getElem?_eq_none q] at hu; cases hu
  have hl : 0 < l.length := by
    rcases Nat.eq_zero_or_pos l.length with q | q
    · rw [q] at hk; omega
    · exact q
  have hi : k / s < l.length := Nat.div_lt_of_lt_mul (by rw [Nat.mul_comm]; exact hk)
  obtain ⟨b, off, e2, hb, hcell⟩ := h 0 hl
  rw [e] at e2
  injection e2 with e2
  subst e2
  have ht := Nat.mod_lt k hs
  have ek : k = k / s * s + k % s := by rw [Nat.mul_comm]; exact (Nat.div_add_mod k s).symm
  rw [ek, rowC_get hc l _ _ hi ht] at hu
  rw [Go.WideShapes.add_plain]
  have := hcell (k / s) hi (k % s) u hu
  rwa [Nat.add_assoc, ← ek] at this
theorem wpList_append_row {P : Program} {w : World} {ops : Array Oper} {rest : List Oper} {o : Oper} {a : Act} {Q : Exit → Act → World → Prop} (hgd : o.guard = none) (s x : Operand) (t : TypeId)
    (ho : o.op = .call { callee := .builtin .append, args := #[s, x], argTypes := #[t, t] })
    (base : Nat) (e : TypeId) (i : TypeInfo) (z : Value) (size bytes : Nat) (ht : P.underlying t = some (.slice e)) (hi : P.info? e = some i) (hz : i.zero = some z)
    (hsize : i.size = size) (hby : i.bytes = bytes) (hzs : z.cells.size = size) (hsz : 0 < size)
    (v : Value) (n : Nat) (xs : List Value) (hs : a.eval s = v) (hown : w.ownsRow base e size v n xs)
    (A : Option Addr) (m c : Nat) (news : List Value) (hx : a.eval x = .slice A m c) (hA : A = none → c = 0 ∧ m = 0) (hl : news.length = m * size) (hnews : ∀ ad, A = some ad → ∀ j u, news[j]? = some u → w.cell? (ad.add j) = some u) (h1 : ∀ u ∈ news, u.oneCell' = true)
    (h63 : n + m ≤ maxLen) (hbytes : (n + m) * bytes ≤ 140737488355328) (hbase : base ≤ w.heap.size)
    (h : ∀ v' w', w'.ownsRow base e size v' (n + m) (xs ++ news) → w.grownBy w' v.ownBlock → (v'.ownBlock = v.ownBlock ∨ v'.ownBlock = some w.heap.size) → wpList P ops Q rest (a.put o.dst v') w') :
    wpList P ops Q (o :: rest) a w := by
  cases A with
  | none =>
    obtain ⟨rfl, rfl⟩ := hA rfl
    have : news = [] := List.eq_nil_of_length_eq_zero (by rw [hl]; omega)
    subst this
    refine wpList_append_own_none hgd s x t ho base e i size ht hi v n xs hs hown hx (h v w (by rw [Nat.add_zero, List.append_nil]; exact hown) ⟨rfl, rfl, rfl, Nat.le_refl _, fun _ _ _ => rfl⟩ (.inl rfl))
  | some ad =>
    exact wpList_append_own_at w hgd s x t ho base e i z size bytes ht hi hz hsize hby hzs hsz v n xs hs hown ad m c news hx hl (hnews ad rfl) h1 h63 hbytes hbase (fun v' w' a b _ d => h v' w' a b d)
/-- a row that a call owns, read -/
theorem own_row {α : Type} {c : α → List Value} {s : Nat} {w : World} {base : Nat} {e : TypeId} {v : Value} {n : Nat} {l : List α} (hc : ∀ a, (c a).length = s) (hn : l.length = n) (h : w.ownsRow base e s v n (rowC c l)) :
    ∃ A cap, v = .slice A n cap ∧ n ≤ cap ∧ cap ≤ 9223372036854775807 ∧ RowIn c s w A l ∧ (A = none → cap = 0 ∧ n = 0) := by
  obtain ⟨A, cap, rfl, h1, h2, h3, h4⟩ := rowIn_own hc hn h
  exact ⟨A, cap, rfl, h1, h2, h4, fun e => by have := h3 e; omega⟩
theorem own_head {w : World} {base : Nat} {e : TypeId} {s : Nat} {A : Option Addr} {n m cap : Nat} {xs : List Value} (h : w.ownsRow base e s (.slice A m cap) n xs) : A = none ∨ ∃ g, A = some ⟨g, 0, none⟩ := by
  rcases h.2 with ⟨h2, _⟩ | ⟨g, _, _, h2, _⟩
  · injection h2 with h2; exact .inl h2
  · injection h2 with h2; exact .inr ⟨g, h2⟩
end Go.Proofs.Ytijegkiapbmekaa
