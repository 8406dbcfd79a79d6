/- The walk of the law TermDepth. -/
import Derived.Test.YtnhfnpjfahmmpaaLaws1
import Derived.Test.YtnhfnpjfahmmpaaPlain2
namespace Go.Proofs.Ytnhfnpjfahmmpaa
open Go.RowKit
theorem maxA_snoc (d : List C → Nat) (p : List C) : ∀ (l : List (List C)) (m : Nat), maxA d m (l ++ [p]) = max (maxA d m l) (d p)
  | [], _ => rfl
  | _ :: l, _ => maxA_snoc d p l _
theorem maxA_take {d : List C → Nat} {l : List (List C)} {k : Nat} {p : List C} (h : l[k]? = some p) : maxA d 0 (l.take (k + 1)) = max (maxA d 0 (l.take k)) (d p) := by
  obtain ⟨hl, he⟩ := List.getElem?_eq_some_iff.1 h
  rw [List.take_succ_eq_append_getElem hl, he, maxA_snoc]

set_option maxRecDepth 100000 in
set_option maxHeartbeats 1000000 in
theorem termDepth_walk (A : Option Addr) (n cap : Nat) (t : List C) (w : World) (h : IsC w A n cap t) : Calls Try.prog 7 #[.slice A n cap] w (RetV w (.bool true)) := by
  have hm1 : n ≤ maxLen := Nat.le_trans h.sl.hcap h.sl.hmax
  by_cases g1 : 300 < n
  · have G1 := Lib.hid (decide_eq_true g1)
    go_enter Try.func7, Try.ntmps7
    go_wp2_with (first | (go_at_call 12; go_must (refine (head_any _).mono ?_); rintro e w1 ⟨rfl, hb⟩) | (go_at_call 13; go_must (refine Calls.mono (great_any _ _ _ _ (by assumption)) ?_); rw [G1.out]; rintro e w1 ⟨rfl, rfl⟩))
    go_ret
    exact ⟨rfl, hb⟩
  have G1 := Lib.hid (decide_eq_false g1)
  cases r1 : rightB t
  · have R1 := Lib.hid r1
    clear r1
    go_enter Try.func7, Try.ntmps7
    go_wp2_with (first | (go_at_call 12; go_must (refine (head_any _).mono ?_); rintro e w1 ⟨rfl, hb⟩) | (go_at_call 13; go_must (refine Calls.mono (great_any _ _ _ _ (by assumption)) ?_); rw [G1.out]; rintro e w1 ⟨rfl, rfl⟩) | (go_at_call 14; go_must (refine Calls.mono (tRight_any _ _ _ _ _ (h.below hb) (by omega)) ?_); rw [R1.out]; rintro e w1 ⟨rfl, hbn⟩; replace hb := hb.trans (hbn.mono hb.size); clear hbn))
    go_ret
    exact ⟨rfl, hb⟩
  have R1 := Lib.hid r1
  have hp6 := parts_len r1
  have hd1 : depthF t ≤ n := by rw [← h.len]; exact depthF_le t
  have hd2 := depthF_eq r1
  have hd3 : ((depthF t : Int) == 1) = ((n : Int) == 1) := by
    rw [Bool.eq_iff_iff]
    have := depthF_one r1
    rw [h.len] at this
    simp
    omega
  have D2 := Lib.hid hd2
  have D3 := Lib.hid hd3
  clear r1 hd2 hd3
  go_enter Try.func7, Try.ntmps7
  go_wp2_with (first | (go_at_call 12; go_must (refine (head_any _).mono ?_); rintro e w1 ⟨rfl, hb⟩) | (go_at_call 13; go_must (refine Calls.mono (great_any _ _ _ _ (by assumption)) ?_); rw [G1.out]; rintro e w1 ⟨rfl, rfl⟩) | (go_at_call 14; go_must (refine Calls.mono (tRight_any _ _ _ _ _ (h.below hb) (by omega)) ?_); rw [R1.out]; rintro e w1 ⟨rfl, hbn⟩; replace hb := hb.trans (hbn.mono hb.size); clear hbn) | (go_at_call 26; go_must (refine Calls.mono (tParts_any _ _ _ _ _ (h.below hb) R1.out) ?_); rintro e w3 ⟨Ap, np, cp, rfl, hp, hb3⟩; replace hb := hb.trans (hb3.mono hb.size)))
  have hnp := hp.len
  have hnp6 : np ≤ 6 := by omega
  have Hnp := Lib.hid hnp
  clear hnp
  obtain ⟨hc, hf⟩ := bcell hb
  go_loopw [5, 6] (fun o i wr => ∃ (k m : Nat), k ≤ np ∧ i = .int .i64 k ∧ o = .int .i64 m ∧ m ≤ 100000 ∧ Hid (m = maxA depthF 0 ((partsF t).take k)) ∧ Below w3.heap.size w3 wr) (fun _ i _ => np - (intOf i).toNat)
  case atStart => exact ⟨0, 0, Nat.zero_le _, rfl, rfl, by omega, Lib.hid rfl, Below.refl _ _⟩
  case round =>
    obtain ⟨k, m, hk, rfl, rfl, hm, hres, hbr⟩ := hrel
    clear hc hf
    by_cases hlt : k < np
    · obtain ⟨p, hpk⟩ := hp.get hlt
      obtain ⟨b', off', A', n', c', rfl, hbb', h0', hcp⟩ := hp.at_ hpk
      have hpr := parts_right R1.out (List.mem_of_getElem? hpk)
      have hdp : depthF p ≤ 100000 := by have := depthF_le p; have := ((right_iff _).1 hpr.1).2; omega
      have hmax : ((m : Int) ≤ depthF p ∧ max m (depthF p) = depthF p) ∨ (¬ (m : Int) ≤ depthF p ∧ max m (depthF p) = m) := by omega
      have Hpr := Lib.hid hpr.1
      have Hpk := Lib.hid hpk
      have Hmax := Lib.hid hmax
      clear hpk hpr hmax
      obtain ⟨hc, hf⟩ := bcell hbr
      go_wp2_with (first
        | (go_at_call 18; go_must (refine Calls.mono (tDepth_any _ _ _ p _ (hcp.below hbr) Hpr.out) ?_); rintro e w4 ⟨rfl, hb4⟩; replace hbr := hbr.trans (hb4.mono hbr.size); clear hc hf; obtain ⟨hc, hf⟩ := bcell hbr))
      go_roundw
      case rel =>
        refine ⟨k + 1, max m (depthF p), by omega, by go_num, ?_, by omega, Lib.hid (by rw [maxA_take Hpk.out, ← hres.out]), hbr⟩
        congr 1
        split <;> omega
      case measure => simp [intOf]; omega
    · have hmn : depthF t = m + 1 := by
        have := hres.out
        rw [List.take_of_length_le (by rw [Hnp.out]; omega)] at this
        rw [D2.out, this]
      have e1 : ((depthF t : Int) == (m : Int) + 1) = true := by simp; omega
      have E1 := Lib.hid e1
      clear hmn e1
      replace hb := hb.trans (hbr.mono hb.size)
      obtain ⟨hc, hf⟩ := bcell hb
      go_wp2_with (first
        | (go_at_call 18; go_must (refine Calls.mono (tDepth_any _ _ _ t _ (h.below hb) R1.out) ?_); rintro e w4 ⟨rfl, hb4⟩; replace hb := hb.trans (hb4.mono hb.size)))
      all_goals go_ret
      all_goals refine ⟨ret_bool ?_, hb⟩
      all_goals
        have q := D3.out
        have e1 : (depthF t : Int) = (m : Int) + 1 := by have := E1.out; simpa using this
        rw [e1] at q
        first | (rw [q]; simp; done) | (simp [q, e1]; omega) | (exfalso; omega)
end Go.Proofs.Ytnhfnpjfahmmpaa
