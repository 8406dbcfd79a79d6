/- The walk that finds the clause of code. -/
import Derived.Test.YtdeaeiolehglaaaM13
import Derived.Test.YtdeaeiolehglaaaRTerm
import Derived.Test.YtdeaeiolehglaaaRead
import Derived.Test.YtdeaeiolehglaaaComp
import Derived.Test.YtdeaeiolehglaaaSameIn
set_option linter.unusedVariables false
set_option linter.unusedSimpArgs false
namespace Go.Proofs.Ytdeaeiolehglaaa
open Go.RowKit Go.Maps

/-- no clause is handed back -/
def RetNo (w : World) (e : Ending) (w' : World) : Prop := e = .returned (.tuple #[.agg #[.slice none 0 0, .slice none 0 0], .bool false]) ∧ Below w.heap.size w w'
/-- a clause is handed back -/
def RetSrc (w : World) (r : Raw) (e : Ending) (w' : World) : Prop := ∃ A n c B m d, e = .returned (.tuple #[.agg #[.slice A n c, .slice B m d], .bool true]) ∧ IsC w' A n c r.1 ∧ IsLs w' B m d r.2 ∧ Below w.heap.size w w'
set_option maxRecDepth 100000 in
set_option maxHeartbeats 4000000 in
theorem source_none (A : Option Addr) (cap : Nat) (w : World) : Calls Try.prog 20 #[.slice A 0 cap] w (RetNo w) := by
  go_enter Try.func20, Try.ntmps20
  go_wp2
  refine bodyPost_ret (v := .tuple #[.agg #[.slice none 0 0, .slice none 0 0], .bool false]) (by simp [results, Try.results20, go_sem, *]) rfl ?_
  exact ⟨rfl, by first | exact (Below.refl _ _).alloc (Nat.le_refl _) _ | (refine Below.setCell (Below.setCell ((Below.refl _ _).alloc (Nat.le_refl _) _) ?_ _) ?_ _ <;> exact Nat.le_refl _)⟩
set_option maxRecDepth 100000 in
set_option maxHeartbeats 4000000 in
theorem source_end (A : Option Addr) (n cap : Nat) (l : List In) (e : In) (w : World) (h : IsK w A n cap l) (hn : n ≤ 100000) (he : l[n - 1]? = some e) (hbad : ¬ endOk e) : Calls Try.prog 20 #[.slice A n cap] w (RetNo w) := by
  have hpos : 0 < n := by have := (List.getElem?_eq_some_iff.1 he).1; have := h.len; omega
  obtain ⟨b, off, rfl, hbb, hw, c0, c1, c2, c3, c4, c5⟩ := h.at' he
  have hcap := h.cap_le
  obtain ⟨m, rfl⟩ : ∃ m, n = m + 1 := ⟨n - 1, by omega⟩
  rw [Nat.add_sub_cancel] at c0 c1 c2 c3 c4 c5
  have hm : ((m + 1 : Nat) : Int) - 1 = m := by omega
  have hwn := hw.n
  clear he
  unfold endOk at hbad
  by_cases q1 : e.op = 13
  · by_cases q2 : e.n < 0
    · clear hbad
      go_enter Try.func20, Try.ntmps20
      go_wp2
      refine bodyPost_ret (v := .tuple #[.agg #[.slice none 0 0, .slice none 0 0], .bool false]) (by simp [results, Try.results20, go_sem, *]) rfl ?_
      exact ⟨rfl, ((Below.refl _ _).alloc (Nat.le_refl _) _).alloc (by simp) _⟩
    · have q3 : (6 : Int) < e.n := by
        rcases Int.lt_or_le 6 e.n with h | h
        · exact h
        · exact absurd ⟨q1, by omega, h⟩ hbad
      clear hbad
      go_enter Try.func20, Try.ntmps20
      go_wp2
      refine bodyPost_ret (v := .tuple #[.agg #[.slice none 0 0, .slice none 0 0], .bool false]) (by simp [results, Try.results20, go_sem, *]) rfl ?_
      exact ⟨rfl, ((Below.refl _ _).alloc (Nat.le_refl _) _).alloc (by simp) _⟩
  · clear hbad
    go_enter Try.func20, Try.ntmps20
    go_wp2
    refine bodyPost_ret (v := .tuple #[.agg #[.slice none 0 0, .slice none 0 0], .bool false]) (by simp [results, Try.results20, go_sem, *]) rfl ?_
    exact ⟨rfl, ((Below.refl _ _).alloc (Nat.le_refl _) _).alloc (by simp) _⟩
end Go.Proofs.Ytdeaeiolehglaaa
