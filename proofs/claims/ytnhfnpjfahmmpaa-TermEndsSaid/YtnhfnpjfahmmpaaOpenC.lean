/- A cell by value, opened. -/
import Derived.Test.YtnhfnpjfahmmpaaOpen
namespace Go.Proofs.Ytnhfnpjfahmmpaa
open Go.RowKit Go.ChangeShapes Go.WideShapes Go.Deep Go.Joins
section
variable {H : Type} {enc : TypeId × Value → H} {w : World} {base : Nat} {spare : Nat → Bool} {held : Bool}
theorem open_cell {r : Reach} {b0 : Nat} {v : Value} {d : DataW H} {p : List MemPlace} (hv : Value.okWide Try.prog w r b0 40 v) (h : DataW.Trod enc Try.prog w base spare held 40 v d p) :
    ∃ c : C, v = c.val ∧ c.wf := by
  obtain ⟨v0, v1, v2, y0, y1, y2, n, rfl, _, _, h0, h1, h2⟩ := open_agg3 Try.underlying40 (by kernel_rfl) cellsC hv h
  obtain ⟨k, e0, _, w0⟩ := DataW.trod_int Try.underlying3 h0
  obtain ⟨s, e1, _, w1⟩ := DataW.trod_string Try.underlying9 h1
  obtain ⟨q, e2, _, w2⟩ := DataW.trod_int Try.underlying3 h2
  simp at e0 e1 e2
  subst e0 e1 e2
  exact ⟨⟨k, s, q⟩, rfl, wf_i64 w0, wf_i64 w2, w1⟩
end
end Go.Proofs.Ytnhfnpjfahmmpaa
