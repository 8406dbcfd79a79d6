/- What holds in each round of the laws of heaps that do many deeds. -/
import Derived.Test.YtlndjooddkjnoaaLH1
import Derived.Test.YtlndjooddkjnoaaB4
set_option linter.unusedVariables false
set_option linter.unusedSimpArgs false
namespace Go.Proofs.Ytlndjooddkjnoaa
open Go.RowKit

/-- what holds in each round: gh is the heap that is changed, g0 the heap that was given -/
structure LInv (w : World) (g0 gh : Nat) (l : List C) (tr : List Int) (r : Int) (wr : World) (L : List C) (TR ds a : List Int) (D : Option Addr) (pn e : Nat) : Prop where
  at_ : IsI wr D pn e a
  sep : pn ≠ 0 → ∀ x, D = some x → x.block ≠ gh
  len : a.length ≤ 1000
  ok : OkH ⟨L, TR, r⟩
  atl : AtL L.length a
  hst : Hst l tr L TR ds
  heap : HB wr gh L TR r
  old : HB wr g0 l tr r
  low : Below w.heap.size w wr
theorem LInv.below {w : World} {g0 gh : Nat} {l : List C} {tr : List Int} {r : Int} {wr X : World} {L : List C} {TR ds a : List Int} {D : Option Addr} {pn e : Nat} (h : LInv w g0 gh l tr r wr L TR ds a D pn e) (hb : Below wr.heap.size wr X) : LInv w g0 gh l tr r X L TR ds a D pn e :=
  ⟨h.at_.below hb, h.sep, h.len, h.ok, h.atl, h.hst, h.heap.below hb, h.old.below hb, h.low.trans (hb.mono h.low.size)⟩
theorem IsI.kq9 {w w' : World} {A : Option Addr} {n c g : Nat} {tr : List Int} (h : IsI w A n c tr) (hk : Kq g w w') (hs : n ≠ 0 → ∀ x, A = some x → x.block ≠ g) : IsI w' A n c tr := by
  cases tr with
  | nil =>
    have := h.len
    subst this
    exact isI_nil_any h
  | cons a tr => exact h.kq hk (hs (by have := h.len; simp at this; omega))
theorem IsI.lt {w : World} {A : Option Addr} {n c : Nat} {tr : List Int} (h : IsI w A n c tr) (hn : n ≠ 0) : ∀ x, A = some x → x.block < w.heap.size := by
  obtain ⟨y, hy⟩ := h.get (k := 0) (by omega)
  obtain ⟨b, off, rfl, hb, _⟩ := h.at_ hy
  intro x hx
  cases hx
  exact hb
/-- the heap is stored anew -/
theorem LInv.store {w : World} {g0 gh : Nat} {l : List C} {tr : List Int} {r : Int} {wr : World} {L L' : List C} {TR TR' ds ds' a : List Int} {D A B : Option Addr} {pn e c d : Nat} (h : LInv w g0 gh l tr r wr L TR ds a D pn e) (n0 : g0 ≠ gh) (nw : w.heap.size ≤ gh) (ho : OkH ⟨l, tr, r⟩)
    (hC : IsC wr A L'.length c L') (hN : IsI wr B TR'.length d TR') (ok : OkH ⟨L', TR', r⟩) (hle : L.length ≤ L'.length) (hh : Hst L TR L' TR' ds') :
    LInv w g0 gh l tr r (((wr.setCell ⟨gh, 0, none⟩ (.slice A L'.length c)).setCell ⟨gh, 1, none⟩ (.slice B TR'.length d)).setCell ⟨gh, 2, none⟩ (.int .i64 r)) L' TR' (ds ++ ds') a D pn e ∧ Kq gh wr (((wr.setCell ⟨gh, 0, none⟩ (.slice A L'.length c)).setCell ⟨gh, 1, none⟩ (.slice B TR'.length d)).setCell ⟨gh, 2, none⟩ (.int .i64 r)) := by
  obtain ⟨h1, h2⟩ := HB.store h.heap.rb hC hN ok
  exact ⟨⟨h.at_.kq9 h2 h.sep, h.sep, h.len, ok, h.atl.mono hle, h.hst.trans hh, h1, h.old.kq ho h2 h.heap.rb n0, h.low.trans (h2.bel.mono nw)⟩, h2⟩
theorem ops_at {w : World} {A : Option Addr} {n c i : Nat} {ops : List Opr} (h : IsOps w A n c ops) (hi : i < n) : ∃ (b off : Nat) (o : Opr) (A' : Option Addr) (n' c' : Nat), A = some ⟨b, off, none⟩ ∧ b < w.heap.size ∧ IsC w A' n' c' o.t ∧ w.cell? ⟨b, off + i * 3, none⟩ = some (.slice A' n' c') ∧ w.cell? ⟨b, off + i * 3 + 1, none⟩ = some (.int .i64 o.a) ∧ w.cell? ⟨b, off + i * 3 + 2, none⟩ = some (.int .i64 o.b) := by
  obtain ⟨o, ho⟩ : ∃ o, ops[i]? = some o := ⟨_, List.getElem?_eq_getElem (by rw [h.len]; exact hi)⟩
  obtain ⟨b, off, v, hA, hb, _, ⟨A', n', c', rfl, ht, ia, ib⟩, hc⟩ := h.at_ ho
  exact ⟨b, off, o, A', n', c', hA, hb, ht, hc 0 _ rfl, hc 1 _ rfl, hc 2 _ rfl⟩
theorem ops_cap {w : World} {A : Option Addr} {n c : Nat} {ops : List Opr} (h : IsOps w A n c ops) : n ≤ c ∧ c ≤ 2 ^ 63 - 1 := by
  obtain ⟨vs, _, _, hs, _⟩ := h.rows
  exact ⟨hs.hcap, hs.hmax⟩
theorem store_mark {Y : World} {g n m : Nat} (h : Y.heap[g]? = some (.cells #[.int .i64 0, .int .i64 0, .slice none 0 0] 43 (0, 0))) : ∃ F, F = ((Y.setCell ⟨g, 0, none⟩ (.int .i64 n)).setCell ⟨g, 1, none⟩ (.int .i64 m)).setCell ⟨g, 2, none⟩ (.slice none 0 0) ∧ MB F g n m ∧ Kq g Y F := by
  refine ⟨_, rfl, ?_, ((Kq.set Y 0 _).trans (Kq.set _ 1 _)).trans (Kq.set _ 2 _)⟩
  have h1 := set_block (k := 0) h (.int .i64 n)
  have h2 := set_block (k := 1) h1 (.int .i64 m)
  have h3 := set_block (k := 2) h2 (.slice none 0 0)
  unfold MB
  simpa using h3
end Go.Proofs.Ytlndjooddkjnoaa
