/- The walks of slices.Clone over slots and numbers. -/
import Derived.Test.YtlndjooddkjnoaaHL4
import Derived.Test.YtlndjooddkjnoaaTurn
set_option linter.unusedVariables false
set_option linter.unusedSimpArgs false
namespace Go.Proofs.Ytlndjooddkjnoaa
open Go.RowKit

set_option maxHeartbeats 400000 in
theorem cloneS_any (A : Option Addr) (n cap : Nat) (t : List C) (w : World) (h : IsC w A n cap t) (hn : n ≤ 100000) :
    Calls Try.prog 51 #[.slice A n cap] w fun e w' => ∃ A' cap', e = .returned (.slice A' n cap') ∧ w'.ownsRow w.heap.size 68 3 (.slice A' n cap') n (flatC t) ∧ Below w.heap.size w w' := by
  cases A with
  | none =>
    have hnil : ∀ w : World, (binOp .eql 22 (.slice none n cap) (.slice none 0 0)).run Try.prog w = .ok (.bool true) w := fun w => Lib.run_eql_slice_nil w 22 68 none n cap 0 0 Try.underlying22
    have h0 : n = 0 := by
      rcases Nat.eq_zero_or_pos n with h0 | h0
      · exact h0
      · obtain ⟨b, off, hA, _⟩ := h.sl.cells h0
        cases hA
    subst h0
    have ht : t = [] := List.eq_nil_of_length_eq_zero h.len
    subst ht
    go_enter Try.func51, Try.ntmps51
    go_wp2
    go_ret
    exact ⟨_, _, rfl, World.ownsRow_nil _ _ _ _, Below.refl _ _⟩
  | some ad =>
    have hnil : ∀ w : World, (binOp .eql 22 (.slice (some ad) n cap) (.slice none 0 0)).run Try.prog w = .ok (.bool false) w := fun w => Lib.run_eql_slice_nil w 22 68 (some ad) n cap 0 0 Try.underlying22
    go_enter Try.func51, Try.ntmps51
    go_wp2_with (first | (at_builtin; go_must (refine wpList_append_sl rfl (.tmp 5) (.tmp 6) 22 rfl w.heap.size 68 Try.underlying22 infoS rfl (by omega) rfl (World.ownsRow_lit w #[] 0 (Nat.le_refl _) (by simp [maxLen]) rfl) rfl (h.sl.below (by repeat (first | assumption | exact Below.refl _ _ | refine Below.drew ?_ | refine below_drewN ?_ _ | refine Below.alloc ?_ ?_ _ | refine Below.setCell ?_ ?_ _ | (apply Below.size; assumption) | (simp; done) | (simp; omega) | (have hz := hb.size; simp; omega) | (have hz := hb.size; omega) | omega))) (oneC t) (by omega) (by omega) (by simp) ?_); intro A' cap' w1 hown1 hb1 _ _))
    go_ret
    refine ⟨A', cap', by simp, by simpa using hown1, ?_⟩
    exact Below.trans (by repeat (first | assumption | exact Below.refl _ _ | refine Below.drew ?_ | refine below_drewN ?_ _ | refine Below.alloc ?_ ?_ _ | refine Below.setCell ?_ ?_ _ | (apply Below.size; assumption) | (simp; done) | (simp; omega) | (have hz := hb.size; simp; omega) | (have hz := hb.size; omega) | omega)) hb1
set_option maxHeartbeats 400000 in
theorem cloneI_any (A : Option Addr) (n cap : Nat) (t : List Int) (w : World) (h : IsI w A n cap t) (hn : n ≤ 100000) :
    Calls Try.prog 52 #[.slice A n cap] w fun e w' => ∃ A' cap', e = .returned (.slice A' n cap') ∧ w'.ownsRow w.heap.size 3 1 (.slice A' n cap') n (t.map (Value.int .i64)) ∧ Below w.heap.size w w' := by
  cases A with
  | none =>
    have hnil : ∀ w : World, (binOp .eql 23 (.slice none n cap) (.slice none 0 0)).run Try.prog w = .ok (.bool true) w := fun w => Lib.run_eql_slice_nil w 23 3 none n cap 0 0 Try.underlying23
    have h0 : n = 0 := by
      rcases Nat.eq_zero_or_pos n with h0 | h0
      · exact h0
      · obtain ⟨b, off, hA, _⟩ := h.sl.cells h0
        cases hA
    subst h0
    have ht : t = [] := List.eq_nil_of_length_eq_zero h.len
    subst ht
    go_enter Try.func52, Try.ntmps52
    go_wp2
    go_ret
    exact ⟨_, _, rfl, World.ownsRow_nil _ _ _ _, Below.refl _ _⟩
  | some ad =>
    have hnil : ∀ w : World, (binOp .eql 23 (.slice (some ad) n cap) (.slice none 0 0)).run Try.prog w = .ok (.bool false) w := fun w => Lib.run_eql_slice_nil w 23 3 (some ad) n cap 0 0 Try.underlying23
    go_enter Try.func52, Try.ntmps52
    go_wp2_with (first | (at_builtin; go_must (refine wpList_append_sl rfl (.tmp 5) (.tmp 6) 23 rfl w.heap.size 3 Try.underlying23 infoI rfl (by omega) rfl (World.ownsRow_lit w #[] 0 (Nat.le_refl _) (by simp [maxLen]) rfl) rfl (h.sl.below (by repeat (first | assumption | exact Below.refl _ _ | refine Below.drew ?_ | refine below_drewN ?_ _ | refine Below.alloc ?_ ?_ _ | refine Below.setCell ?_ ?_ _ | (apply Below.size; assumption) | (simp; done) | (simp; omega) | (have hz := hb.size; simp; omega) | (have hz := hb.size; omega) | omega))) (oneI _ t) (by omega) (by omega) (by simp) ?_); intro A' cap' w1 hown1 hb1 _ _))
    go_ret
    refine ⟨A', cap', by simp, by simpa using hown1, ?_⟩
    exact Below.trans (by repeat (first | assumption | exact Below.refl _ _ | refine Below.drew ?_ | refine below_drewN ?_ _ | refine Below.alloc ?_ ?_ _ | refine Below.setCell ?_ ?_ _ | (apply Below.size; assumption) | (simp; done) | (simp; omega) | (have hz := hb.size; simp; omega) | (have hz := hb.size; omega) | omega)) hb1
end Go.Proofs.Ytlndjooddkjnoaa
