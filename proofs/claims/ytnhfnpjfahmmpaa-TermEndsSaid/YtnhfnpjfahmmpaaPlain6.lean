/- Plain laws on cutting a term, and on a cell more. No program in sight. -/
import Derived.Test.YtnhfnpjfahmmpaaPart
namespace Go.Proofs.Ytnhfnpjfahmmpaa
open Go.RowKit

theorem skip_longer (p q : List C) : ∀ (k : Nat) (r : List C), skip p k = some r → skip (p ++ q) k = some (r ++ q) := by
  induction p with
  | nil =>
    intro k r h
    cases k with
    | zero => rw [skip_zero] at h; injection h with h; subst h; rw [skip_zero]
    | succ k => rw [skip_nil _ (by omega)] at h; cases h
  | cons c p ih =>
    intro k r h
    cases k with
    | zero => rw [skip_zero] at h; injection h with h; subst h; rw [skip_zero]
    | succ k =>
      rw [skip_cons] at h
      split at h
      · rename_i hc
        rw [List.cons_append, skip_cons, if_pos hc]
        exact ih _ _ h
      · cases h
theorem right_cut {t : List C} (h : rightB t = true) {k : Nat} (hk : k < t.length) : rightB (t.take k) = false := by
  rw [← Bool.not_eq_true, right_iff]
  rintro ⟨h1, _⟩
  have h2 := skip_longer _ (t.drop k) _ _ h1
  rw [List.take_append_drop, ((right_iff t).1 h).1] at h2
  injection h2 with h2
  have := congrArg List.length h2
  simp at this
  omega
theorem right_more {t : List C} (h : rightB t = true) (c : C) : rightB (t ++ [c]) = false := by
  rw [← Bool.not_eq_true, right_iff]
  rintro ⟨h1, _⟩
  have h2 := skip_longer _ [c] _ _ ((right_iff t).1 h).1
  rw [h1] at h2
  injection h2 with h2
  cases h2
end Go.Proofs.Ytnhfnpjfahmmpaa
