/- The walk of the law TermShift. -/
import Derived.Test.YtnhfnpjfahmmpaaLaws1
import Derived.Test.YtnhfnpjfahmmpaaPlain5
namespace Go.Proofs.Ytnhfnpjfahmmpaa
open Go.RowKit
theorem i16_range {v : Int} (h : (Lit.int .i16 v).wf = true) : -32768 ≤ v ∧ v ≤ 32767 := by
  simpa [Lit.wf, IntKind.min, IntKind.max, IntKind.signed, IntKind.bits] using h

set_option maxRecDepth 100000 in
set_option maxHeartbeats 4000000 in
theorem termShift_walk (A : Option Addr) (n cap : Nat) (t : List C) (v : Int) (w : World) (h : IsC w A n cap t) (hwf : (Lit.int .i16 v).wf = true) : Calls Try.prog 9 #[.slice A n cap, .int .i16 v] w (RetV w (.bool true)) := by
  have hm1 : n ≤ maxLen := Nat.le_trans h.sl.hcap h.sl.hmax
  by_cases g1 : 300 < n
  · have G1 := Lib.hid (decide_eq_true g1)
    go_enter Try.func9, Try.ntmps9
    go_wp2_with (first | (go_at_call 12; go_must (refine (head_any _).mono ?_); rintro e w1 ⟨rfl, hb⟩) | (go_at_call 13; go_must (refine Calls.mono (great_any _ _ _ _ (by assumption)) ?_); rw [G1.out]; rintro e w1 ⟨rfl, rfl⟩))
    go_ret
    exact ⟨rfl, hb⟩
  have G1 := Lib.hid (decide_eq_false g1)
  cases r1 : rightB t
  · have R1 := Lib.hid r1
    clear r1
    go_enter Try.func9, Try.ntmps9
    go_wp2_with (first | (go_at_call 12; go_must (refine (head_any _).mono ?_); rintro e w1 ⟨rfl, hb⟩) | (go_at_call 13; go_must (refine Calls.mono (great_any _ _ _ _ (by assumption)) ?_); rw [G1.out]; rintro e w1 ⟨rfl, rfl⟩) | (go_at_call 14; go_must (refine Calls.mono (tRight_any _ _ _ _ _ (h.below hb) (by omega)) ?_); rw [R1.out]; rintro e w1 ⟨rfl, hbn⟩; replace hb := hb.trans (hbn.mono hb.size); clear hbn))
    go_ret
    exact ⟨rfl, hb⟩
  have R1 := Lib.hid r1
  have hl := h.len
  have HL := Lib.hid hl
  obtain ⟨hv1, hv2⟩ := i16_range hwf
  have hvr : -100000 ≤ v ∧ v ≤ 100000 := by omega
  obtain ⟨vn, hvn⟩ : ∃ vn, (varsF t).length = vn := ⟨_, rfl⟩
  have HVL := Lib.hid hvn
  have hvn1 : vn ≤ n := by rw [← hvn, ← hl]; exact varsF_len t
  have hrange := vars_range r1
  have HR := Lib.hid hrange
  obtain ⟨sn, hsn⟩ : ∃ sn, (shiftF t v).length = sn := ⟨_, rfl⟩
  have HSL := Lib.hid hsn
  cases ho : okV v (varsF t)
  · have hsh := shift_no r1 hvr ho
    obtain rfl : sn = 0 := by rw [← hsn, hsh]; rfl
    have HO := Lib.hid ho
    clear r1 hl hvn hrange hsn ho hsh
    go_enter Try.func9, Try.ntmps9
    go_wp2_with (first | (go_at_call 12; go_must (refine (head_any _).mono ?_); rintro e w1 ⟨rfl, hb⟩) | (go_at_call 13; go_must (refine Calls.mono (great_any _ _ _ _ (by assumption)) ?_); rw [G1.out]; rintro e w1 ⟨rfl, rfl⟩) | (go_at_call 14; go_must (refine Calls.mono (tRight_any _ _ _ _ _ (h.below hb) (by omega)) ?_); rw [R1.out]; rintro e w1 ⟨rfl, hbn⟩; replace hb := hb.trans (hbn.mono hb.size); clear hbn) | (go_at_call 28; go_must (refine Calls.mono (tShift_any _ _ _ _ v _ (h.below hb) (by omega)) ?_); intro e w1 hret; obtain ⟨S1, sc1, rfl, hS1, hbn⟩ := hret.at_ HSL.out; clear hret; replace hb := hb.trans (hbn.mono hb.size); clear hbn) | (go_at_call 21; go_must (refine Calls.mono (tVars_any _ _ _ _ _ (h.below hb) (by omega)) ?_); intro e w3 hret; obtain ⟨V1, vc1, rfl, hV1, hbn⟩ := hret.at_ HVL.out; clear hret; replace hb := hb.trans (hbn.mono hb.size); replace hS1 := hS1.below hbn; clear hbn))
    go_loopw [8, 9] (fun o i wr => ∃ (k : Nat) (b : Bool), k ≤ vn ∧ i = .int .i64 k ∧ o = .bool b ∧ Hid (okV v ((varsF t).take k) = b) ∧ w3 = wr) (fun _ i _ => vn - (intOf i).toNat)
    case atStart => exact ⟨0, true, Nat.zero_le _, rfl, rfl, Lib.hid rfl, by first | rfl | trivial⟩
    case round =>
    obtain ⟨k, b, hk, rfl, rfl, hres, rfl⟩ := hrel
    by_cases hlt : k < vn
    · obtain ⟨x, hxk⟩ := hV1.get hlt
      obtain ⟨b', off', rfl, hbb', _, h0'⟩ := hV1.at_ hxk
      obtain ⟨hx1, hx2⟩ := HR.out x (List.mem_of_getElem? hxk)
      have hstep := okV_take v hxk
      rw [hres.out] at hstep
      have Hstep := Lib.hid hstep
      clear hstep hxk
      cases b
      · go_wp2
        go_roundw
        case rel => exact ⟨k + 1, false, by omega, by go_num, rfl, Lib.hid (by rw [Hstep.out]; rfl), by first | rfl | trivial⟩
        case measure => simp [intOf]; omega
      · by_cases q1 : 0 ≤ x + v
        · by_cases q2 : x + v ≤ 999
          · go_wp2
            go_roundw
            case rel => exact ⟨k + 1, true, by omega, by go_num, by simp [q1, q2], Lib.hid (by rw [Hstep.out]; simp [q1, q2]), by first | rfl | trivial⟩
            case measure => simp [intOf]; omega
          · go_wp2
            go_roundw
            case rel => exact ⟨k + 1, false, by omega, by go_num, by simp [q1, q2], Lib.hid (by rw [Hstep.out]; simp [q1, q2]), by first | rfl | trivial⟩
            case measure => simp [intOf]; omega
        · go_wp2
          go_roundw
          case rel => exact ⟨k + 1, false, by omega, by go_num, by simp [q1], Lib.hid (by rw [Hstep.out]; simp [q1]), by first | rfl | trivial⟩
          case measure => simp [intOf]; omega
    · obtain rfl : b = false := by
        have := hres.out
        rw [List.take_of_length_le (by rw [HVL.out]; omega), HO.out] at this
        exact this.symm
      go_wp2
      go_ret
      exact ⟨rfl, hb⟩
  · obtain ⟨f1, f2, f3, f4, f5⟩ := shift_facts r1 hvr ho
    have f6 := shift_zero r1
    obtain rfl : sn = n := by rw [← hsn, f4, hl]
    have HSR := Lib.hid f1
    have HSD := Lib.hid f2
    have HSV := Lib.hid f3
    have HWL : Hid ((varsF (shiftF t v)).length = vn) := Lib.hid (by rw [f3, List.length_map, hvn])
    have HSB := Lib.hid f5
    have HS0 := Lib.hid f6
    have HO := Lib.hid ho
    clear r1 hl hvn hrange hsn ho f1 f2 f3 f4 f5 f6
    go_enter Try.func9, Try.ntmps9
    go_wp2_with (first | (go_at_call 12; go_must (refine (head_any _).mono ?_); rintro e w1 ⟨rfl, hb⟩) | (go_at_call 13; go_must (refine Calls.mono (great_any _ _ _ _ (by assumption)) ?_); rw [G1.out]; rintro e w1 ⟨rfl, rfl⟩) | (go_at_call 14; go_must (refine Calls.mono (tRight_any _ _ _ _ _ (h.below hb) (by omega)) ?_); rw [R1.out]; rintro e w1 ⟨rfl, hbn⟩; replace hb := hb.trans (hbn.mono hb.size); clear hbn) | (go_at_call 28; go_must (refine Calls.mono (tShift_any _ _ _ _ v _ (h.below hb) (by omega)) ?_); intro e w1 hret; obtain ⟨S1, sc1, rfl, hS1, hbn⟩ := hret.at_ HSL.out; clear hret; replace hb := hb.trans (hbn.mono hb.size); clear hbn) | (go_at_call 21; go_must (refine Calls.mono (tVars_any _ _ _ _ _ (h.below hb) (by omega)) ?_); intro e w3 hret; obtain ⟨V1, vc1, rfl, hV1, hbn⟩ := hret.at_ HVL.out; clear hret; replace hb := hb.trans (hbn.mono hb.size); replace hS1 := hS1.below hbn; clear hbn))
    go_loopw [8, 9] (fun o i wr => ∃ (k : Nat) (b : Bool), k ≤ vn ∧ i = .int .i64 k ∧ o = .bool b ∧ Hid (okV v ((varsF t).take k) = b) ∧ w3 = wr) (fun _ i _ => vn - (intOf i).toNat)
    case atStart => exact ⟨0, true, Nat.zero_le _, rfl, rfl, Lib.hid rfl, by first | rfl | trivial⟩
    case round =>
    obtain ⟨k, b, hk, rfl, rfl, hres, rfl⟩ := hrel
    by_cases hlt : k < vn
    · obtain ⟨x, hxk⟩ := hV1.get hlt
      obtain ⟨b', off', rfl, hbb', _, h0'⟩ := hV1.at_ hxk
      obtain ⟨hx1, hx2⟩ := HR.out x (List.mem_of_getElem? hxk)
      have hstep := okV_take v hxk
      rw [hres.out] at hstep
      have Hstep := Lib.hid hstep
      clear hstep hxk
      cases b
      · go_wp2
        go_roundw
        case rel => exact ⟨k + 1, false, by omega, by go_num, rfl, Lib.hid (by rw [Hstep.out]; rfl), by first | rfl | trivial⟩
        case measure => simp [intOf]; omega
      · by_cases q1 : 0 ≤ x + v
        · by_cases q2 : x + v ≤ 999
          · go_wp2
            go_roundw
            case rel => exact ⟨k + 1, true, by omega, by go_num, by simp [q1, q2], Lib.hid (by rw [Hstep.out]; simp [q1, q2]), by first | rfl | trivial⟩
            case measure => simp [intOf]; omega
          · go_wp2
            go_roundw
            case rel => exact ⟨k + 1, false, by omega, by go_num, by simp [q1, q2], Lib.hid (by rw [Hstep.out]; simp [q1, q2]), by first | rfl | trivial⟩
            case measure => simp [intOf]; omega
        · go_wp2
          go_roundw
          case rel => exact ⟨k + 1, false, by omega, by go_num, by simp [q1], Lib.hid (by rw [Hstep.out]; simp [q1]), by first | rfl | trivial⟩
          case measure => simp [intOf]; omega
    · obtain rfl : b = true := by
        have := hres.out
        rw [List.take_of_length_le (by rw [HVL.out]; omega), HO.out] at this
        exact this.symm
      go_wp2_with (first | (go_at_call 21; go_must (refine Calls.mono (tVars_any _ _ _ _ _ hS1 (by omega)) ?_); intro e w5 hret; obtain ⟨W1, wc1, rfl, hW1, hbn⟩ := hret.at_ HWL.out; clear hret; replace hb := hb.trans (hbn.mono hb.size); replace hS1 := hS1.below hbn; replace hV1 := hV1.below hbn; clear hbn) | (go_at_call 14; go_must (refine Calls.mono (tRight_any _ _ _ _ _ hS1 (by omega)) ?_); rw [HSR.out]; rintro e w5 ⟨rfl, hbn⟩; replace hb := hb.trans (hbn.mono hb.size); replace hS1 := hS1.below hbn; replace hV1 := hV1.below hbn; replace hW1 := hW1.below hbn; clear hbn) | (go_at_call 18; go_must (first | (refine Calls.mono (tDepth_any _ _ _ _ _ hS1 HSR.out) ?_; rw [HSD.out]) | (refine Calls.mono (tDepth_any _ _ _ _ _ (h.below hb) R1.out) ?_)); rintro e w5 ⟨rfl, hbn⟩; replace hb := hb.trans (hbn.mono hb.size); replace hS1 := hS1.below hbn; replace hV1 := hV1.below hbn; replace hW1 := hW1.below hbn; clear hbn))
      have HWM : Hid (∀ k x, (varsF t)[k]? = some x → (varsF (shiftF t v))[k]? = some (x + v)) := Lib.hid fun k x hk => by rw [HSV.out, List.getElem?_map, hk]; rfl
      go_loopw [12] (fun i wr => ∃ k : Nat, k ≤ vn ∧ i = .int .i64 k ∧ Below w5.heap.size w5 wr) (fun i _ => vn - (intOf i).toNat)
      case atStart => exact ⟨0, Nat.zero_le _, rfl, Below.refl _ _⟩
      case round =>
        obtain ⟨k, hk, rfl, hbr⟩ := hrel
        by_cases hlt : k < vn
        · obtain ⟨x, hxk⟩ := hV1.get hlt
          obtain ⟨b1, o1, rfl, hbb1, _, hc1⟩ := hV1.at_ hxk
          obtain ⟨b2, o2, rfl, hbb2, _, hc2⟩ := hW1.at_ (HWM.out _ _ hxk)
          obtain ⟨hx1, hx2⟩ := HR.out x (List.mem_of_getElem? hxk)
          clear hxk
          obtain ⟨hc, hf⟩ := bcell hbr
          have hw1 := Nat.lt_of_lt_of_le hbb1 hbr.size
          have hw2 := Nat.lt_of_lt_of_le hbb2 hbr.size
          go_wp2
          go_quiet (fail)
          go_wp2
          go_roundw
          case rel => exact ⟨k + 1, by omega, by go_num, below_drewN hbr _⟩
          case measure => simp [intOf]; omega
        · replace hb := hb.trans (hbr.mono hb.size)
          replace hS1 := hS1.below hbr
          replace hV1 := hV1.below hbr
          replace hW1 := hW1.below hbr
          go_wp2_with (first | (go_at_call 28; go_must (first | (refine Calls.mono (tShift_any _ _ _ _ _ _ hS1 (by omega)) ?_; rw [HSB.out]) | (refine Calls.mono (tShift_any _ _ _ _ _ _ (h.below hb) (by omega)) ?_; rw [HS0.out])); intro e w6 hret; obtain ⟨X1, xc1, rfl, hX1, hbn⟩ := hret.at_ HL.out; clear hret; replace hb := hb.trans (hbn.mono hb.size); replace hS1 := hS1.below hbn; replace hV1 := hV1.below hbn; replace hW1 := hW1.below hbn; clear hbn) | (go_at_call 16; go_must (refine Calls.mono (Calls.mono (tSame_any _ _ _ _ _ _ _ _ _ hX1 (h.below hb) (by omega) (by omega)) (fun _ _ h => h.v)) ?_); rw [(sameC_iff _ _).2 rfl]; clear hX1; rintro e w6 ⟨rfl, hbn⟩; replace hb := hb.trans (hbn.mono hb.size); replace hS1 := hS1.below hbn; replace hV1 := hV1.below hbn; replace hW1 := hW1.below hbn; clear hbn))
          go_ret
          exact ⟨rfl, hb⟩
end Go.Proofs.Ytnhfnpjfahmmpaa
