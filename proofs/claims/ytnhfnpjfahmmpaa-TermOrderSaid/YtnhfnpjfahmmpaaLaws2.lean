/- The walk of the law TermOrder. -/
import Derived.Test.YtnhfnpjfahmmpaaLaws1
import Derived.Test.YtnhfnpjfahmmpaaPlain4
namespace Go.Proofs.Ytnhfnpjfahmmpaa
open Go.RowKit

theorem order_facts (a b c : List C) : ∃ x y z : Int, compareT a b = x ∧ compareT b c = y ∧ compareT a c = z ∧ compareT b a = -x ∧ sameC a b = decide (x = 0) ∧ compareT a a = 0 ∧
    ((x = -1 ∧ y = -1 ∧ z = -1) ∨ (x = -1 ∧ y = 0 ∧ z = -1) ∨ (x = -1 ∧ y = 1) ∨ (x = 0 ∧ y = -1 ∧ z = -1) ∨ (x = 0 ∧ y = 0 ∧ z = 0) ∨ (x = 0 ∧ y = 1) ∨ (x = 1 ∧ y = -1) ∨ (x = 1 ∧ y = 0) ∨ (x = 1 ∧ y = 1)) := by
  have hxr := compareT_cmp.range a b
  have hyr := compareT_cmp.range b c
  have t1 := compareT_cmp.trans a b c
  have t2 : compareT a b = 0 → compareT a c = compareT b c := fun h1 => by rw [(compareT_cmp.zero a b).1 h1]
  have t3 : compareT b c = 0 → compareT a c = compareT a b := fun h1 => by rw [(compareT_cmp.zero b c).1 h1]
  refine ⟨_, _, _, rfl, rfl, rfl, compareT_cmp.anti a b, ?_, (compareT_cmp.zero a a).2 rfl, ?_⟩
  · rw [Bool.eq_iff_iff, sameC_iff, decide_eq_true_eq, compareT_cmp.zero]
  · generalize compareT a b = x at *
    generalize compareT b c = y at *
    generalize compareT a c = z at *
    rcases hxr with rfl | rfl | rfl <;> rcases hyr with rfl | rfl | rfl
    all_goals simp_all

set_option maxRecDepth 100000 in
set_option maxHeartbeats 4000000 in
theorem termOrder_walk (A : Option Addr) (n cap : Nat) (a : List C) (B : Option Addr) (m cap' : Nat) (b : List C) (D : Option Addr) (k cap'' : Nat) (c : List C) (w : World)
    (ha : IsC w A n cap a) (hb' : IsC w B m cap' b) (hd : IsC w D k cap'' c) : Calls Try.prog 11 #[.slice A n cap, .slice B m cap', .slice D k cap''] w (RetV w (.bool true)) := by
  have hm1 : n ≤ maxLen := Nat.le_trans ha.sl.hcap ha.sl.hmax
  have hm2 : m ≤ maxLen := Nat.le_trans hb'.sl.hcap hb'.sl.hmax
  have hm3 : k ≤ maxLen := Nat.le_trans hd.sl.hcap hd.sl.hmax
  by_cases g1 : 300 < n
  · have G1 := Lib.hid (decide_eq_true g1)
    go_enter Try.func11, Try.ntmps11
    go_wp2_with (first | (go_at_call 12; go_must (refine (head_any _).mono ?_); rintro e w1 ⟨rfl, hb⟩) | (go_at_call 13; go_must (refine Calls.mono (great_any _ _ _ _ (by assumption)) ?_); (first | rw [G1.out] | rw [G2.out] | rw [G3.out]); rintro e w1 ⟨rfl, rfl⟩))
    go_ret
    exact ⟨rfl, hb⟩
  have G1 := Lib.hid (decide_eq_false g1)
  by_cases g2 : 300 < m
  · have G2 := Lib.hid (decide_eq_true g2)
    go_enter Try.func11, Try.ntmps11
    go_wp2_with (first | (go_at_call 12; go_must (refine (head_any _).mono ?_); rintro e w1 ⟨rfl, hb⟩) | (go_at_call 13; go_must (refine Calls.mono (great_any _ _ _ _ (by assumption)) ?_); (first | rw [G1.out] | rw [G2.out] | rw [G3.out]); rintro e w1 ⟨rfl, rfl⟩))
    go_ret
    exact ⟨rfl, hb⟩
  have G2 := Lib.hid (decide_eq_false g2)
  by_cases g3 : 300 < k
  · have G3 := Lib.hid (decide_eq_true g3)
    go_enter Try.func11, Try.ntmps11
    go_wp2_with (first | (go_at_call 12; go_must (refine (head_any _).mono ?_); rintro e w1 ⟨rfl, hb⟩) | (go_at_call 13; go_must (refine Calls.mono (great_any _ _ _ _ (by assumption)) ?_); (first | rw [G1.out] | rw [G2.out] | rw [G3.out]); rintro e w1 ⟨rfl, rfl⟩))
    go_ret
    exact ⟨rfl, hb⟩
  have G3 := Lib.hid (decide_eq_false g3)
  cases r1 : rightB a
  · have R1 := Lib.hid r1
    clear r1
    go_enter Try.func11, Try.ntmps11
    go_wp2_with (first | (go_at_call 12; go_must (refine (head_any _).mono ?_); rintro e w1 ⟨rfl, hb⟩) | (go_at_call 13; go_must (refine Calls.mono (great_any _ _ _ _ (by assumption)) ?_); (first | rw [G1.out] | rw [G2.out] | rw [G3.out]); rintro e w1 ⟨rfl, rfl⟩) | (go_at_call 14; go_must (refine Calls.mono (tRight_any _ _ _ _ _ (by first | exact ha.below hb | exact hb'.below hb | exact hd.below hb) (by omega)) ?_); (first | rw [R1.out] | rw [R2.out] | rw [R3.out]); rintro e w1 ⟨rfl, hbn⟩; replace hb := hb.trans (hbn.mono hb.size); clear hbn))
    go_ret
    exact ⟨rfl, hb⟩
  cases r2 : rightB b
  · have R1 := Lib.hid r1
    have R2 := Lib.hid r2
    clear r1 r2
    go_enter Try.func11, Try.ntmps11
    go_wp2_with (first | (go_at_call 12; go_must (refine (head_any _).mono ?_); rintro e w1 ⟨rfl, hb⟩) | (go_at_call 13; go_must (refine Calls.mono (great_any _ _ _ _ (by assumption)) ?_); (first | rw [G1.out] | rw [G2.out] | rw [G3.out]); rintro e w1 ⟨rfl, rfl⟩) | (go_at_call 14; go_must (refine Calls.mono (tRight_any _ _ _ _ _ (by first | exact ha.below hb | exact hb'.below hb | exact hd.below hb) (by omega)) ?_); (first | rw [R1.out] | rw [R2.out] | rw [R3.out]); rintro e w1 ⟨rfl, hbn⟩; replace hb := hb.trans (hbn.mono hb.size); clear hbn))
    go_ret
    exact ⟨rfl, hb⟩
  cases r3 : rightB c
  · have R1 := Lib.hid r1
    have R2 := Lib.hid r2
    have R3 := Lib.hid r3
    clear r1 r2 r3
    go_enter Try.func11, Try.ntmps11
    go_wp2_with (first | (go_at_call 12; go_must (refine (head_any _).mono ?_); rintro e w1 ⟨rfl, hb⟩) | (go_at_call 13; go_must (refine Calls.mono (great_any _ _ _ _ (by assumption)) ?_); (first | rw [G1.out] | rw [G2.out] | rw [G3.out]); rintro e w1 ⟨rfl, rfl⟩) | (go_at_call 14; go_must (refine Calls.mono (tRight_any _ _ _ _ _ (by first | exact ha.below hb | exact hb'.below hb | exact hd.below hb) (by omega)) ?_); (first | rw [R1.out] | rw [R2.out] | rw [R3.out]); rintro e w1 ⟨rfl, hbn⟩; replace hb := hb.trans (hbn.mono hb.size); clear hbn))
    go_ret
    exact ⟨rfl, hb⟩
  have R1 := Lib.hid r1
  have R2 := Lib.hid r2
  have R3 := Lib.hid r3
  clear r1 r2 r3
  obtain ⟨x, y, z, hx, hy, hz, hx', hs, h0, hall⟩ := order_facts a b c
  have X := Lib.hid hx
  have Y := Lib.hid hy
  have Z := Lib.hid hz
  have X' := Lib.hid hx'
  have HS := Lib.hid hs
  have H0 := Lib.hid h0
  clear hx hy hz hx' hs h0
  rcases hall with ⟨rfl, rfl, rfl⟩ | ⟨rfl, rfl, rfl⟩ | ⟨rfl, rfl⟩ | ⟨rfl, rfl, rfl⟩ | ⟨rfl, rfl, rfl⟩ | ⟨rfl, rfl⟩ | ⟨rfl, rfl⟩ | ⟨rfl, rfl⟩ | ⟨rfl, rfl⟩
  all_goals
    go_enter Try.func11, Try.ntmps11
    go_wp2_with (first | (go_at_call 12; go_must (refine (head_any _).mono ?_); rintro e w1 ⟨rfl, hb⟩) | (go_at_call 13; go_must (refine Calls.mono (great_any _ _ _ _ (by assumption)) ?_); (first | rw [G1.out] | rw [G2.out] | rw [G3.out]); rintro e w1 ⟨rfl, rfl⟩) | (go_at_call 14; go_must (refine Calls.mono (tRight_any _ _ _ _ _ (by first | exact ha.below hb | exact hb'.below hb | exact hd.below hb) (by omega)) ?_); (first | rw [R1.out] | rw [R2.out] | rw [R3.out]); rintro e w1 ⟨rfl, hbn⟩; replace hb := hb.trans (hbn.mono hb.size); clear hbn) | (go_at_call 32; go_must (refine Calls.mono (tCompare_any _ _ _ _ _ _ _ _ _ (by first | exact ha.below hb | exact hb'.below hb | exact hd.below hb) (by first | exact ha.below hb | exact hb'.below hb | exact hd.below hb) (by omega) (by omega)) ?_); (first | rw [X.out] | rw [Y.out] | rw [Z.out] | rw [X'.out] | rw [H0.out]); rintro e w1 ⟨rfl, hbn⟩; replace hb := hb.trans (hbn.mono hb.size); clear hbn) | (go_at_call 16; go_must (refine Calls.mono (tSame_any _ _ _ _ _ _ _ _ _ (ha.below hb) (hb'.below hb) (by omega) (by omega)) ?_); rw [HS.out]; rintro e w1 ⟨rfl, d, rfl⟩; replace hb := below_drewN hb d))
    go_ret
    exact ⟨rfl, hb⟩
end Go.Proofs.Ytnhfnpjfahmmpaa
