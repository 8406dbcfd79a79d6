/- A clause with its variables numbered, as rows of cells. No program in sight. -/
import Derived.Test.YtdeaeiolehglaaaM13
set_option linter.unusedVariables false
set_option linter.unusedSimpArgs false
namespace Go.Proofs.Ytdeaeiolehglaaa
open Go.RowKit

/-- the variables of literals, behind others -/
def varsLr : List Int → List (Bool × List C) → List Int
  | xs, [] => xs
  | xs, p :: b => varsLr (varsA xs p.2) b
theorem varsLr_ext : ∀ (b : List (Bool × List C)) (acc : List Int), ∃ zs, varsLr acc b = acc ++ zs
  | [], acc => ⟨[], by simp [varsLr]⟩
  | p :: b, acc => by
    obtain ⟨z1, h1⟩ := varsA_ext p.2 acc
    obtain ⟨z2, h2⟩ := varsLr_ext b (varsA acc p.2)
    exact ⟨z1 ++ z2, by rw [varsLr, h2, h1, List.append_assoc]⟩
theorem varsLr_append : ∀ (a b : List (Bool × List C)) (acc : List Int), varsLr acc (a ++ b) = varsLr (varsLr acc a) b
  | [], b, acc => rfl
  | p :: a, b, acc => varsLr_append a b _
theorem varsLr_take {b : List (Bool × List C)} {k : Nat} {p : Bool × List C} (acc : List Int) (h : b[k]? = some p) : varsLr acc (b.take (k + 1)) = varsA (varsLr acc (b.take k)) p.2 := by
  obtain ⟨hl, he⟩ := List.getElem?_eq_some_iff.1 h
  rw [List.take_succ_eq_append_getElem hl, he, varsLr_append]
  rfl
theorem varsLr_le (b : List (Bool × List C)) (k : Nat) (acc : List Int) : (varsLr acc (b.take k)).length ≤ (varsLr acc b).length := by
  conv => rhs; rw [← List.take_append_drop k b, varsLr_append]
  obtain ⟨zs, hz⟩ := varsLr_ext (b.drop k) (varsLr acc (b.take k))
  rw [hz]; simp
theorem mergeV_ext (l : List Int) : ∀ acc, ∃ zs, mergeV acc l = acc ++ zs := by
  induction l with
  | nil => intro acc; exact ⟨[], by simp [mergeV]⟩
  | cons x l ih =>
    intro acc
    rw [mergeV_step]
    split
    · exact ih acc
    · obtain ⟨zs, h⟩ := ih (acc ++ [x])
      exact ⟨[x] ++ zs, by rw [h]; simp⟩
theorem mergeV_le (acc l : List Int) : acc.length ≤ (mergeV acc l).length := by
  obtain ⟨zs, h⟩ := mergeV_ext l acc
  rw [h]; simp
/-- a clause's cells with its variables numbered -/
def numR (r : Raw) : Raw := (turnF (placeI (varsLr (varsF r.1) r.2)) r.1, r.2.map fun p => (p.1, turnF (placeI (varsLr (varsF r.1) r.2)) p.2))
theorem varsLr_cls : ∀ (ls : List Ltl) (acc : List Int), varsLr acc (ls.map fun l => (l.neg, l.t.flat)) = varsL acc ls
  | [], _ => rfl
  | l :: ls, acc => varsLr_cls ls _
theorem numR_cls {c : Cls} {r : Raw} (h : IsCls c r) : numR r = numC c := by
  unfold numR numC numV
  rw [← h.head, ← h.body, varsLr_cls, List.map_map]
  rfl
theorem numV_le {c : Cls} {r : Raw} (h : IsCls c r) : (numV c).length ≤ 1000 := nodup_len 1000 (numV c) (numV_nodup c) fun y hy => by have := numV_range h y hy; omega
/-- are two clauses the same? -/
def sameBody : List (Bool × List C) → List (Bool × List C) → Bool
  | [], [] => true
  | p :: a, q :: b => p.1 == q.1 && (sameC p.2 q.2 && sameBody a b)
  | _, _ => false
def sameCl (a b : Raw) : Bool := sameC a.1 b.1 && sameBody a.2 b.2
theorem sameBody_iff : ∀ a b : List (Bool × List C), sameBody a b = true ↔ a = b
  | [], [] => by simp [sameBody]
  | [], _ :: _ => by simp [sameBody]
  | _ :: _, [] => by simp [sameBody]
  | (p1, p2) :: a, (q1, q2) :: b => by simp [sameBody, sameC_iff, sameBody_iff a b, and_assoc]
theorem sameCl_iff (a b : Raw) : sameCl a b = true ↔ a = b := by
  obtain ⟨a1, a2⟩ := a
  obtain ⟨b1, b2⟩ := b
  simp [sameCl, sameC_iff, sameBody_iff]
theorem sameBody_len {a b : List (Bool × List C)} (h : a.length ≠ b.length) : sameBody a b = false := by
  rw [← Bool.not_eq_true, sameBody_iff]
  rintro rfl
  exact h rfl
end Go.Proofs.Ytdeaeiolehglaaa
