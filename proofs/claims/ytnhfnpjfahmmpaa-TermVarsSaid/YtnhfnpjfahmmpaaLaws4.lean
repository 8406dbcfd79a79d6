/- The walk of the law TermTells. -/
import Derived.Test.YtnhfnpjfahmmpaaLaws1
import Derived.Test.YtnhfnpjfahmmpaaPlain2
import Derived.Test.YtnhfnpjfahmmpaaPlain4
namespace Go.Proofs.Ytnhfnpjfahmmpaa
open Go.RowKit
theorem tSame_v (A B : Option Addr) (n m cap cap' : Nat) (xs ys : List C) (w : World) (hx : IsC w A n cap xs) (hy : IsC w B m cap' ys) (hn : n ≤ 100000) (hm : m ≤ 100000) :
    Calls Try.prog 16 #[.slice A n cap, .slice B m cap'] w (RetV w (.bool (sameC xs ys))) := (tSame_any A B n m cap cap' xs ys w hx hy hn hm).mono fun _ _ h => h.v
theorem rSame_v (A B : Option Addr) (n m cap cap' : Nat) (xs ys : List C) (w : World) (hx : IsC w A n cap xs) (hy : IsC w B m cap' ys) (hn : n ≤ 100000) (hm : m ≤ 100000) :
    Calls Try.prog 17 #[.slice A n cap, .slice B m cap'] w (RetV w (.bool (sameC xs ys))) := (rSame_any A B n m cap cap' xs ys w hx hy hn hm).mono fun _ _ h => h.v
theorem ints_v (A B : Option Addr) (n m cap cap' : Nat) (xs ys : List Int) (w : World) (hx : IsI w A n cap xs) (hy : IsI w B m cap' ys) (hn : n ≤ 100000) (hm : m ≤ 100000) :
    Calls Try.prog 20 #[.slice A n cap, .slice B m cap'] w (RetV w (.bool (sameI xs ys))) := (ints_any A B n m cap cap' xs ys w hx hy hn hm).mono fun _ _ h => h.v
theorem SameAll_v (A B : Option Addr) (n m cap cap' : Nat) (xs ys : List (List C)) (w : World) (hx : IsCC w A n cap xs) (hy : IsCC w B m cap' ys) (hn : n ≤ 100000) (hm : m ≤ 100000)
    (hsx : ∀ t ∈ xs, t.length ≤ 100000) (hsy : ∀ t ∈ ys, t.length ≤ 100000) :
    Calls Try.prog 25 #[.slice A n cap, .slice B m cap'] w (RetV w (.bool (sameCC xs ys))) := (SameAll_any A B n m cap cap' xs ys w hx hy hn hm hsx hsy).mono fun _ _ h => h.v
theorem shiftF_length (t : List C) (v : Int) : (shiftF t v).length ≤ t.length := by
  unfold shiftF
  split
  · simp [turnF]
  · simp
theorem numberF_length (t : List C) : (numberF t).length = t.length := by simp [numberF, turnF]

set_option maxRecDepth 100000 in
set_option maxHeartbeats 4000000 in
theorem termTells_walk (A : Option Addr) (n cap : Nat) (a : List C) (B : Option Addr) (m cap' : Nat) (b : List C) (by_ : Int) (w : World)
    (ha : IsC w A n cap a) (hb' : IsC w B m cap' b) (hw : (Lit.int .i64 by_).wf = true) : Calls Try.prog 3 #[.slice A n cap, .slice B m cap', .int .i64 by_] w (RetV w (.bool true)) := by
  have hm1 : n ≤ maxLen := Nat.le_trans ha.sl.hcap ha.sl.hmax
  have hm2 : m ≤ maxLen := Nat.le_trans hb'.sl.hcap hb'.sl.hmax
  by_cases g1 : 300 < n
  · have G1 := Lib.hid (decide_eq_true g1)
    go_enter Try.func3, Try.ntmps3
    go_wp2_with (first | (go_at_call 12; go_must (refine (head_any _).mono ?_); rintro e w1 ⟨rfl, hb⟩) | (go_at_call 13; go_must (refine Calls.mono (great_any _ _ _ _ (by assumption)) ?_); (first | rw [G1.out] | rw [G2.out]); rintro e w1 ⟨rfl, rfl⟩))
    go_ret
    exact ⟨rfl, hb⟩
  have G1 := Lib.hid (decide_eq_false g1)
  by_cases g2 : 300 < m
  · have G2 := Lib.hid (decide_eq_true g2)
    go_enter Try.func3, Try.ntmps3
    go_wp2_with (first | (go_at_call 12; go_must (refine (head_any _).mono ?_); rintro e w1 ⟨rfl, hb⟩) | (go_at_call 13; go_must (refine Calls.mono (great_any _ _ _ _ (by assumption)) ?_); (first | rw [G1.out] | rw [G2.out]); rintro e w1 ⟨rfl, rfl⟩))
    go_ret
    exact ⟨rfl, hb⟩
  have G2 := Lib.hid (decide_eq_false g2)
  obtain ⟨s, hs⟩ : ∃ s, sameC a b = s := ⟨_, rfl⟩
  have HS := Lib.hid hs
  clear hs
  cases r1 : rightB a
  · have R1 := Lib.hid r1
    clear r1
    cases s
    all_goals
      go_enter Try.func3, Try.ntmps3
      go_wp2_with (first | (go_at_call 12; go_must (refine (head_any _).mono ?_); rintro e w1 ⟨rfl, hb⟩) | (go_at_call 13; go_must (refine Calls.mono (great_any _ _ _ _ (by assumption)) ?_); (first | rw [G1.out] | rw [G2.out]); rintro e w1 ⟨rfl, rfl⟩) | (go_at_call 14; go_must (refine Calls.mono (tRight_any _ _ _ _ _ (ha.below hb) (by omega)) ?_); rw [R1.out]; rintro e w1 ⟨rfl, hbn⟩; replace hb := hb.trans (hbn.mono hb.size); clear hbn) | (go_at_call 15; go_must (refine Calls.mono (rRight_any _ _ _ _ _ (by first | exact ha.below hb | exact hb'.below hb) (by omega)) ?_); (first | rw [R1.out] | rw [R2.out]); rintro e w1 ⟨rfl, hbn⟩; replace hb := hb.trans (hbn.mono hb.size); clear hbn) | (go_at_call 16; go_must (refine Calls.mono (tSame_v _ _ _ _ _ _ _ _ _ (ha.below hb) (hb'.below hb) (by omega) (by omega)) ?_); rw [HS.out]; rintro e w1 ⟨rfl, hbn⟩; replace hb := hb.trans (hbn.mono hb.size); clear hbn) | (go_at_call 17; go_must (refine Calls.mono (rSame_v _ _ _ _ _ _ _ _ _ (ha.below hb) (hb'.below hb) (by omega) (by omega)) ?_); rw [HS.out]; rintro e w1 ⟨rfl, hbn⟩; replace hb := hb.trans (hbn.mono hb.size); clear hbn))
      go_ret
      exact ⟨rfl, hb⟩
  have R1 := Lib.hid r1
  have hla := ha.len
  have PL : Hid (∀ t ∈ partsF a, t.length ≤ 100000) := Lib.hid fun t ht => by
    have := ((right_iff _).1 (parts_right r1 ht).1).2
    omega
  have hpl := parts_len r1
  have hvl := varsF_len a
  have GV := Lib.hid (ground_vars a)
  have hnl := numberF_length a
  have hsl : ∀ v, (shiftF a v).length ≤ n := fun v => by rw [← hla]; exact shiftF_length a v
  clear r1
  have hby : 2000 < by_ ∨ by_ < -2000 ∨ (by_ ≤ 2000 ∧ -2000 ≤ by_) := by omega
  cases r2 : rightB b
  · have R2 := Lib.hid r2
    clear r2
    rcases hby with hby | hby | ⟨hby, hby'⟩
    all_goals
      go_enter Try.func3, Try.ntmps3
      go_wp2_with (first | (go_at_call 12; go_must (refine (head_any _).mono ?_); rintro e w1 ⟨rfl, hb⟩) | (go_at_call 13; go_must (refine Calls.mono (great_any _ _ _ _ (by assumption)) ?_); (first | rw [G1.out] | rw [G2.out]); rintro e w1 ⟨rfl, rfl⟩) | (go_at_call 14; go_must (refine Calls.mono (tRight_any _ _ _ _ _ (ha.below hb) (by omega)) ?_); rw [R1.out]; rintro e w1 ⟨rfl, hbn⟩; replace hb := hb.trans (hbn.mono hb.size); clear hbn) | (go_at_call 15; go_must (refine Calls.mono (rRight_any _ _ _ _ _ (by first | exact ha.below hb | exact hb'.below hb) (by omega)) ?_); (first | rw [R1.out] | rw [R2.out]); rintro e w1 ⟨rfl, hbn⟩; replace hb := hb.trans (hbn.mono hb.size); clear hbn) | (go_at_call 16; go_must (refine Calls.mono (tSame_v _ _ _ _ _ _ _ _ _ (ha.below hb) (hb'.below hb) (by omega) (by omega)) ?_); rw [HS.out]; rintro e w1 ⟨rfl, hbn⟩; replace hb := hb.trans (hbn.mono hb.size); clear hbn) | (go_at_call 18; go_must (refine Calls.mono (tDepth_any _ _ _ _ _ (ha.below hb) R1.out) ?_); rintro e w1 ⟨rfl, hbn⟩; replace hb := hb.trans (hbn.mono hb.size); clear hbn) | (go_at_call 19; go_must (refine Calls.mono (rDepth_any _ _ _ _ _ (ha.below hb) R1.out) ?_); rintro e w1 ⟨rfl, hbn⟩; replace hb := hb.trans (hbn.mono hb.size); clear hbn) | (go_at_call 21; go_must (refine Calls.mono (tVars_any _ _ _ _ _ (ha.below hb) (by omega)) ?_); rintro e w1 ⟨V1, vn1, vc1, rfl, hV1, hbn⟩; replace hb := hb.trans (hbn.mono hb.size); clear hbn) | (go_at_call 22; go_must (refine Calls.mono (rVars_any _ _ _ _ _ (ha.below hb) (by omega)) ?_); rintro e w1 ⟨V2, vn2, vc2, rfl, hV2, hbn⟩; replace hb := hb.trans (hbn.mono hb.size); replace hV1 := hV1.below hbn; clear hbn) | (go_at_call 20; go_must (refine Calls.mono (ints_v _ _ _ _ _ _ _ _ _ hV1 hV2 (by have := hV1.len; omega) (by have := hV2.len; omega)) ?_); rw [(sameI_iff _ _).2 rfl]; clear hV1 hV2; rintro e w1 ⟨rfl, hbn⟩; replace hb := hb.trans (hbn.mono hb.size); clear hbn) | (go_at_call 23; go_must (refine Calls.mono (tGround_any _ _ _ _ _ (ha.below hb) (by omega)) ?_); rw [GV.out]; rintro e w1 ⟨rfl, hbn⟩; replace hb := hb.trans (hbn.mono hb.size); clear hbn) | (go_at_call 24; go_must (refine Calls.mono (rGround_any _ _ _ _ _ (ha.below hb) (by omega)) ?_); rintro e w1 ⟨rfl, hbn⟩; replace hb := hb.trans (hbn.mono hb.size); clear hbn) | (go_at_call 26; go_must (refine Calls.mono (tParts_any _ _ _ _ _ (ha.below hb) R1.out) ?_); rintro e w1 ⟨P1, pn1, pc1, rfl, hP1, hbn⟩; replace hb := hb.trans (hbn.mono hb.size); clear hbn) | (go_at_call 27; go_must (refine Calls.mono (rParts_any _ _ _ _ _ (ha.below hb) R1.out) ?_); rintro e w1 ⟨P2, pn2, pc2, rfl, hP2, hbn⟩; replace hb := hb.trans (hbn.mono hb.size); replace hP1 := hP1.below hbn; clear hbn) | (go_at_call 25; go_must (refine Calls.mono (SameAll_v _ _ _ _ _ _ _ _ _ hP1 hP2 (by have := hP1.len; omega) (by have := hP2.len; omega) PL.out PL.out) ?_); rw [(sameCC_iff _ _).2 rfl]; clear hP1 hP2; rintro e w1 ⟨rfl, hbn⟩; replace hb := hb.trans (hbn.mono hb.size); clear hbn) | (go_at_call 28; go_must (refine Calls.mono (tShift_any _ _ _ _ _ _ (ha.below hb) (by omega)) ?_); rintro e w1 ⟨X1, xn1, xc1, rfl, hX1, hbn⟩; replace hb := hb.trans (hbn.mono hb.size); clear hbn; have hxl1 : xn1 ≤ n := (by rw [← hX1.len]; first | exact hsl _ | omega)) | (go_at_call 29; go_must (refine Calls.mono (rShift_any _ _ _ _ _ _ (ha.below hb) (by omega)) ?_); rintro e w1 ⟨X2, xn2, xc2, rfl, hX2, hbn⟩; replace hb := hb.trans (hbn.mono hb.size); replace hX1 := hX1.below hbn; clear hbn; have hxl2 : xn2 ≤ n := (by rw [← hX2.len]; first | exact hsl _ | omega)) | (go_at_call 30; go_must (refine Calls.mono (tNumber_any _ _ _ _ _ (ha.below hb) (by omega)) ?_); rintro e w1 ⟨X1, xn1, xc1, rfl, hX1, hbn⟩; replace hb := hb.trans (hbn.mono hb.size); clear hbn; have hxl1 : xn1 ≤ n := (by rw [← hX1.len]; first | exact hsl _ | omega)) | (go_at_call 31; go_must (refine Calls.mono (rNumber_any _ _ _ _ _ (ha.below hb) (by omega)) ?_); rintro e w1 ⟨X2, xn2, xc2, rfl, hX2, hbn⟩; replace hb := hb.trans (hbn.mono hb.size); replace hX1 := hX1.below hbn; clear hbn; have hxl2 : xn2 ≤ n := (by rw [← hX2.len]; first | exact hsl _ | omega)) | (go_at_call 17; go_must (first | (refine Calls.mono (rSame_v _ _ _ _ _ _ _ _ _ hX1 hX2 (by omega) (by omega)) ?_; rw [(sameC_iff _ _).2 rfl]; clear hX1 hX2 hxl1 hxl2) | (refine Calls.mono (rSame_v _ _ _ _ _ _ _ _ _ (ha.below hb) (hb'.below hb) (by omega) (by omega)) ?_; rw [HS.out])); rintro e w1 ⟨rfl, hbn⟩; replace hb := hb.trans (hbn.mono hb.size); clear hbn) | (go_at_call 32; go_must (refine Calls.mono (tCompare_any _ _ _ _ _ _ _ _ _ (ha.below hb) (hb'.below hb) (by omega) (by omega)) ?_); rintro e w1 ⟨rfl, hbn⟩; replace hb := hb.trans (hbn.mono hb.size); clear hbn) | (go_at_call 33; go_must (refine Calls.mono (rCompare_any _ _ _ _ _ _ _ _ _ (ha.below hb) (hb'.below hb) (by omega) (by omega)) ?_); rw [CR.out]; rintro e w1 ⟨rfl, hbn⟩; replace hb := hb.trans (hbn.mono hb.size); clear hbn))
      go_ret
      exact ⟨rfl, hb⟩
  · have R2 := Lib.hid r2
    have CR := Lib.hid (compare_right R1.out r2)
    clear r2
    rcases hby with hby | hby | ⟨hby, hby'⟩
    all_goals
      go_enter Try.func3, Try.ntmps3
      go_wp2_with (first | (go_at_call 12; go_must (refine (head_any _).mono ?_); rintro e w1 ⟨rfl, hb⟩) | (go_at_call 13; go_must (refine Calls.mono (great_any _ _ _ _ (by assumption)) ?_); (first | rw [G1.out] | rw [G2.out]); rintro e w1 ⟨rfl, rfl⟩) | (go_at_call 14; go_must (refine Calls.mono (tRight_any _ _ _ _ _ (ha.below hb) (by omega)) ?_); rw [R1.out]; rintro e w1 ⟨rfl, hbn⟩; replace hb := hb.trans (hbn.mono hb.size); clear hbn) | (go_at_call 15; go_must (refine Calls.mono (rRight_any _ _ _ _ _ (by first | exact ha.below hb | exact hb'.below hb) (by omega)) ?_); (first | rw [R1.out] | rw [R2.out]); rintro e w1 ⟨rfl, hbn⟩; replace hb := hb.trans (hbn.mono hb.size); clear hbn) | (go_at_call 16; go_must (refine Calls.mono (tSame_v _ _ _ _ _ _ _ _ _ (ha.below hb) (hb'.below hb) (by omega) (by omega)) ?_); rw [HS.out]; rintro e w1 ⟨rfl, hbn⟩; replace hb := hb.trans (hbn.mono hb.size); clear hbn) | (go_at_call 18; go_must (refine Calls.mono (tDepth_any _ _ _ _ _ (ha.below hb) R1.out) ?_); rintro e w1 ⟨rfl, hbn⟩; replace hb := hb.trans (hbn.mono hb.size); clear hbn) | (go_at_call 19; go_must (refine Calls.mono (rDepth_any _ _ _ _ _ (ha.below hb) R1.out) ?_); rintro e w1 ⟨rfl, hbn⟩; replace hb := hb.trans (hbn.mono hb.size); clear hbn) | (go_at_call 21; go_must (refine Calls.mono (tVars_any _ _ _ _ _ (ha.below hb) (by omega)) ?_); rintro e w1 ⟨V1, vn1, vc1, rfl, hV1, hbn⟩; replace hb := hb.trans (hbn.mono hb.size); clear hbn) | (go_at_call 22; go_must (refine Calls.mono (rVars_any _ _ _ _ _ (ha.below hb) (by omega)) ?_); rintro e w1 ⟨V2, vn2, vc2, rfl, hV2, hbn⟩; replace hb := hb.trans (hbn.mono hb.size); replace hV1 := hV1.below hbn; clear hbn) | (go_at_call 20; go_must (refine Calls.mono (ints_v _ _ _ _ _ _ _ _ _ hV1 hV2 (by have := hV1.len; omega) (by have := hV2.len; omega)) ?_); rw [(sameI_iff _ _).2 rfl]; clear hV1 hV2; rintro e w1 ⟨rfl, hbn⟩; replace hb := hb.trans (hbn.mono hb.size); clear hbn) | (go_at_call 23; go_must (refine Calls.mono (tGround_any _ _ _ _ _ (ha.below hb) (by omega)) ?_); rw [GV.out]; rintro e w1 ⟨rfl, hbn⟩; replace hb := hb.trans (hbn.mono hb.size); clear hbn) | (go_at_call 24; go_must (refine Calls.mono (rGround_any _ _ _ _ _ (ha.below hb) (by omega)) ?_); rintro e w1 ⟨rfl, hbn⟩; replace hb := hb.trans (hbn.mono hb.size); clear hbn) | (go_at_call 26; go_must (refine Calls.mono (tParts_any _ _ _ _ _ (ha.below hb) R1.out) ?_); rintro e w1 ⟨P1, pn1, pc1, rfl, hP1, hbn⟩; replace hb := hb.trans (hbn.mono hb.size); clear hbn) | (go_at_call 27; go_must (refine Calls.mono (rParts_any _ _ _ _ _ (ha.below hb) R1.out) ?_); rintro e w1 ⟨P2, pn2, pc2, rfl, hP2, hbn⟩; replace hb := hb.trans (hbn.mono hb.size); replace hP1 := hP1.below hbn; clear hbn) | (go_at_call 25; go_must (refine Calls.mono (SameAll_v _ _ _ _ _ _ _ _ _ hP1 hP2 (by have := hP1.len; omega) (by have := hP2.len; omega) PL.out PL.out) ?_); rw [(sameCC_iff _ _).2 rfl]; clear hP1 hP2; rintro e w1 ⟨rfl, hbn⟩; replace hb := hb.trans (hbn.mono hb.size); clear hbn) | (go_at_call 28; go_must (refine Calls.mono (tShift_any _ _ _ _ _ _ (ha.below hb) (by omega)) ?_); rintro e w1 ⟨X1, xn1, xc1, rfl, hX1, hbn⟩; replace hb := hb.trans (hbn.mono hb.size); clear hbn; have hxl1 : xn1 ≤ n := (by rw [← hX1.len]; first | exact hsl _ | omega)) | (go_at_call 29; go_must (refine Calls.mono (rShift_any _ _ _ _ _ _ (ha.below hb) (by omega)) ?_); rintro e w1 ⟨X2, xn2, xc2, rfl, hX2, hbn⟩; replace hb := hb.trans (hbn.mono hb.size); replace hX1 := hX1.below hbn; clear hbn; have hxl2 : xn2 ≤ n := (by rw [← hX2.len]; first | exact hsl _ | omega)) | (go_at_call 30; go_must (refine Calls.mono (tNumber_any _ _ _ _ _ (ha.below hb) (by omega)) ?_); rintro e w1 ⟨X1, xn1, xc1, rfl, hX1, hbn⟩; replace hb := hb.trans (hbn.mono hb.size); clear hbn; have hxl1 : xn1 ≤ n := (by rw [← hX1.len]; first | exact hsl _ | omega)) | (go_at_call 31; go_must (refine Calls.mono (rNumber_any _ _ _ _ _ (ha.below hb) (by omega)) ?_); rintro e w1 ⟨X2, xn2, xc2, rfl, hX2, hbn⟩; replace hb := hb.trans (hbn.mono hb.size); replace hX1 := hX1.below hbn; clear hbn; have hxl2 : xn2 ≤ n := (by rw [← hX2.len]; first | exact hsl _ | omega)) | (go_at_call 17; go_must (first | (refine Calls.mono (rSame_v _ _ _ _ _ _ _ _ _ hX1 hX2 (by omega) (by omega)) ?_; rw [(sameC_iff _ _).2 rfl]; clear hX1 hX2 hxl1 hxl2) | (refine Calls.mono (rSame_v _ _ _ _ _ _ _ _ _ (ha.below hb) (hb'.below hb) (by omega) (by omega)) ?_; rw [HS.out])); rintro e w1 ⟨rfl, hbn⟩; replace hb := hb.trans (hbn.mono hb.size); clear hbn) | (go_at_call 32; go_must (refine Calls.mono (tCompare_any _ _ _ _ _ _ _ _ _ (ha.below hb) (hb'.below hb) (by omega) (by omega)) ?_); rintro e w1 ⟨rfl, hbn⟩; replace hb := hb.trans (hbn.mono hb.size); clear hbn) | (go_at_call 33; go_must (refine Calls.mono (rCompare_any _ _ _ _ _ _ _ _ _ (ha.below hb) (hb'.below hb) (by omega) (by omega)) ?_); rw [CR.out]; rintro e w1 ⟨rfl, hbn⟩; replace hb := hb.trans (hbn.mono hb.size); clear hbn))
      go_ret
      exact ⟨rfl, hb⟩
end Go.Proofs.Ytnhfnpjfahmmpaa
