/- The walk of the law TermNumber. -/
import Derived.Test.YtnhfnpjfahmmpaaLaws1
import Derived.Test.YtnhfnpjfahmmpaaPlain5
namespace Go.Proofs.Ytnhfnpjfahmmpaa
open Go.RowKit
theorem u16_range {v : Int} (h : (Lit.int .u16 v).wf = true) : 0 ≤ v ∧ v ≤ 65535 := by
  simpa [Lit.wf, IntKind.min, IntKind.max, IntKind.signed, IntKind.bits] using h
theorem shift_len (t : List C) (v : Int) (h : rightB t = true) (hv : -100000 ≤ v ∧ v ≤ 100000) : (shiftF t v).length = 0 ∨ ((shiftF t v).length = t.length ∧ numberF (shiftF t v) = numberF t) := by
  cases ho : okV v (varsF t)
  · left; rw [shift_no h hv ho]; rfl
  · right; exact ⟨(shift_facts h hv ho).2.2.2.1, number_shift h hv ho⟩

set_option maxRecDepth 100000 in
set_option maxHeartbeats 4000000 in
theorem termNumber_walk (A : Option Addr) (n cap : Nat) (t : List C) (v : Int) (w : World) (h : IsC w A n cap t) (hwf : (Lit.int .u16 v).wf = true) : Calls Try.prog 10 #[.slice A n cap, .int .u16 v] w (RetV w (.bool true)) := by
  have hm1 : n ≤ maxLen := Nat.le_trans h.sl.hcap h.sl.hmax
  by_cases g1 : 300 < n
  · have G1 := Lib.hid (decide_eq_true g1)
    go_enter Try.func10, Try.ntmps10
    go_wp2_with (first | (go_at_call 12; go_must (refine (head_any _).mono ?_); rintro e w1 ⟨rfl, hb⟩) | (go_at_call 13; go_must (refine Calls.mono (great_any _ _ _ _ (by assumption)) ?_); rw [G1.out]; rintro e w1 ⟨rfl, rfl⟩))
    go_ret
    exact ⟨rfl, hb⟩
  have G1 := Lib.hid (decide_eq_false g1)
  cases r1 : rightB t
  · have R1 := Lib.hid r1
    clear r1
    go_enter Try.func10, Try.ntmps10
    go_wp2_with (first | (go_at_call 12; go_must (refine (head_any _).mono ?_); rintro e w1 ⟨rfl, hb⟩) | (go_at_call 13; go_must (refine Calls.mono (great_any _ _ _ _ (by assumption)) ?_); rw [G1.out]; rintro e w1 ⟨rfl, rfl⟩) | (go_at_call 14; go_must (refine Calls.mono (tRight_any _ _ _ _ _ (by first | exact hN | exact h.below hb) (by omega)) ?_); (first | (rw [R1.out]; rintro e w1 ⟨rfl, hbn⟩; replace hb := hb.trans (hbn.mono hb.size); clear hbn) | (rw [HNR.out]; rintro e w5 ⟨rfl, hbn⟩; replace hb := hb.trans (hbn.mono hb.size); replace hN := hN.below hbn; replace hV1 := hV1.below hbn; clear hbn))))
    go_ret
    exact ⟨rfl, hb⟩
  have R1 := Lib.hid r1
  have hl := h.len
  obtain ⟨hv1, hv2⟩ := u16_range hwf
  obtain ⟨vn, hvn⟩ : ∃ vn, (varsF t).length = vn := ⟨_, rfl⟩
  have HVL := Lib.hid hvn
  have hvn1 : vn ≤ n := by rw [← hvn, ← hl]; exact varsF_len t
  obtain ⟨f1, f2, f3, f4⟩ := number_facts r1
  have HNR := Lib.hid f1
  have HNL : Hid ((numberF t).length = n) := Lib.hid (by rw [f2, hl])
  have HNN := Lib.hid f4
  have HNVL : Hid ((varsF (numberF t)).length = vn) := Lib.hid (by rw [f3]; simp [hvn])
  have HNV : Hid (∀ k, k < vn → (varsF (numberF t))[k]? = some (k : Int)) := Lib.hid fun k hk => by
    rw [f3, hvn, List.getElem?_map, List.getElem?_range hk]; rfl
  have hsl := shift_len t (v % 500) r1 (by omega)
  obtain ⟨sn, hsn⟩ : ∃ sn, (shiftF t (v % 500)).length = sn := ⟨_, rfl⟩
  have HSL := Lib.hid hsn
  rw [hsn, hl] at hsl
  have HS := Lib.hid hsl
  have hsn1 : sn ≤ n := by rcases hsl with h | ⟨h, _⟩ <;> omega
  have hn0 : 0 < n := by have := skip_pos ((right_iff _).1 r1).1; omega
  clear r1 hl hvn f1 f2 f3 f4 hsn hsl
  go_enter Try.func10, Try.ntmps10
  go_wp2_with (first | (go_at_call 12; go_must (refine (head_any _).mono ?_); rintro e w1 ⟨rfl, hb⟩) | (go_at_call 13; go_must (refine Calls.mono (great_any _ _ _ _ (by assumption)) ?_); rw [G1.out]; rintro e w1 ⟨rfl, rfl⟩) | (go_at_call 14; go_must (refine Calls.mono (tRight_any _ _ _ _ _ (by first | exact hN | exact h.below hb) (by omega)) ?_); (first | (rw [R1.out]; rintro e w1 ⟨rfl, hbn⟩; replace hb := hb.trans (hbn.mono hb.size); clear hbn) | (rw [HNR.out]; rintro e w5 ⟨rfl, hbn⟩; replace hb := hb.trans (hbn.mono hb.size); replace hN := hN.below hbn; replace hV1 := hV1.below hbn; clear hbn))) | (go_at_call 30; go_must (refine Calls.mono (tNumber_any _ _ _ _ _ (by first | exact hS1 | exact hN | exact h.below hb) (by omega)) ?_); (first | (rw [HNS.out]; intro e w5 hret; obtain ⟨X1, xc1, rfl, hX1, hbn⟩ := hret.at_ HNL.out; clear hret; replace hb := hb.trans (hbn.mono hb.size); replace hN := hN.below hbn; replace hV1 := hV1.below hbn; clear hbn) | (rw [HNN.out]; intro e w5 hret; obtain ⟨X1, xc1, rfl, hX1, hbn⟩ := hret.at_ HNL.out; clear hret; replace hb := hb.trans (hbn.mono hb.size); replace hN := hN.below hbn; replace hV1 := hV1.below hbn; clear hbn) | (intro e w1 hret; obtain ⟨N1, nc1, rfl, hN, hbn⟩ := hret.at_ HNL.out; clear hret; replace hb := hb.trans (hbn.mono hb.size); clear hbn))) | (go_at_call 21; go_must (refine Calls.mono (tVars_any _ _ _ _ _ (by first | exact hN | exact h.below hb) (by omega)) ?_); intro e w5 hret; (first | (obtain ⟨V1, vc1, rfl, hV1, hbn⟩ := hret.at_ HNVL.out; clear hret; replace hb := hb.trans (hbn.mono hb.size); replace hN := hN.below hbn; clear hbn) | (obtain ⟨V2, vc2, rfl, hV2, hbn⟩ := hret.at_ HVL.out; clear hret hV2; replace hb := hb.trans (hbn.mono hb.size); replace hN := hN.below hbn; replace hV1 := hV1.below hbn; clear hbn))) | (go_at_call 16; go_must (refine Calls.mono (Calls.mono (tSame_any _ _ _ _ _ _ _ _ _ hX1 hN (by omega) (by omega)) (fun _ _ h => h.v)) ?_); rw [(sameC_iff _ _).2 rfl]; clear hX1; rintro e w5 ⟨rfl, hbn⟩; replace hb := hb.trans (hbn.mono hb.size); replace hN := hN.below hbn; replace hV1 := hV1.below hbn; clear hbn))
  obtain ⟨hc, hf⟩ := bcell (Below.refl w5.heap.size w5)
  clear hc hf
  go_loopw [8] (fun i wr => ∃ k : Nat, k ≤ vn ∧ i = .int .i64 k ∧ w5 = wr) (fun i _ => vn - (intOf i).toNat)
  case atStart => exact ⟨0, Nat.zero_le _, rfl, by first | rfl | trivial⟩
  case round =>
    obtain ⟨k, hk, rfl, rfl⟩ := hrel
    by_cases hlt : k < vn
    · obtain ⟨b1, o1, rfl, hbb1, _, hc1⟩ := hV1.at_ (HNV.out k hlt)
      go_wp2
      go_roundw
      case rel => exact ⟨k + 1, by omega, by go_num, by first | rfl | trivial⟩
      case measure => simp [intOf]; omega
    · go_wp2
      have h5 := h.below hb
      go_loopw [9] (fun i wr => ∃ k : Nat, k ≤ n ∧ i = .int .i64 k ∧ Below w5.heap.size w5 wr) (fun i _ => n - (intOf i).toNat)
      case atStart => exact ⟨0, Nat.zero_le _, rfl, Below.refl _ _⟩
      case round =>
        obtain ⟨k, hk, rfl, hbr⟩ := hrel
        by_cases hlt : k < n
        · obtain ⟨c, hck⟩ := h5.get hlt
          obtain ⟨b1, o1, rfl, hbb1, _, p0, p1, p2⟩ := h5.at_ hck
          have hck' := number_cell hck
          have hkd := turnC_kind (placeI (varsF t)) c
          have hko : c.kind ≠ 1 → turnC (placeI (varsF t)) c = c := turnC_other
          have hbq : ∀ (m : Nat) (d : C), t[m]? = some d → (turnC (placeI (varsF t)) c).beq (turnC (placeI (varsF t)) d) = c.beq d := fun m d hd => number_beq hck hd
          obtain ⟨c', hc'⟩ : ∃ c', turnC (placeI (varsF t)) c = c' := ⟨_, rfl⟩
          rw [hc'] at hck' hkd hko hbq
          clear hc'
          obtain ⟨b2, o2, rfl, hbb2, _, q0, q1, q2⟩ := hN.at_ hck'
          have hw1 := Nat.lt_of_lt_of_le hbb1 hbr.size
          have hw2 := Nat.lt_of_lt_of_le hbb2 hbr.size
          have Hbq := Lib.hid hbq
          have hkk : (c'.kind != c.kind) = false := by simp [hkd]
          clear hck hck' hbq hkd
          by_cases hk1 : c.kind = 1
          · have hbk : (c.kind != 1) = false := by simp [hk1]
            clear hko hk1
            obtain ⟨hc, hf⟩ := bcell hbr
            go_wp2
            go_quiet (fail)
            go_wp2
            clear hc hf
            go_loopw [10] (fun j wr2 => ∃ m : Nat, m ≤ k ∧ j = .int .i64 m ∧ Below w5.heap.size w5 wr2) (fun j _ => k - (intOf j).toNat)
            case atStart => exact ⟨0, Nat.zero_le _, rfl, below_drewN hbr _⟩
            case round =>
            obtain ⟨m, hm, rfl, hbr2⟩ := hrel
            by_cases hlt2 : m < k
            · obtain ⟨d, hdk⟩ := h5.get (k := m) (by omega)
              obtain ⟨_, _, he, _, _, s0, s1, s2⟩ := h5.at_ hdk
              injection he with he
              injection he with he1 he2
              subst he1 he2
              have hdk' := number_cell hdk
              have hbd := Hbq.out m d hdk
              obtain ⟨d', hd'⟩ : ∃ d', turnC (placeI (varsF t)) d = d' := ⟨_, rfl⟩
              rw [hd'] at hdk' hbd
              clear hd'
              obtain ⟨_, _, he, _, _, t0, t1, t2⟩ := hN.at_ hdk'
              injection he with he
              injection he with he1 he2
              subst he1 he2
              have hq1 := eqC c d
              have hq2 := eqC c' d'
              rw [hbd] at hq2
              clear hbd hdk hdk'
              obtain ⟨hc, hf⟩ := bcell hbr2
              have hw3 := Nat.lt_of_lt_of_le hbb1 hbr2.size
              have hw4 := Nat.lt_of_lt_of_le hbb2 hbr2.size
              go_wp2
              go_quiet (fail)
              go_wp2
              go_roundw
              case rel => exact ⟨m + 1, by omega, by go_num, below_drewN hbr2 _⟩
              case measure => simp [intOf]; omega
            · go_wp2
              go_roundw
              case rel => exact ⟨k + 1, by omega, by go_num, hbr2⟩
              case measure => simp [intOf]; omega
          · have hbk : (c.kind != 1) = true := by simp [hk1]
            obtain rfl := hko hk1
            clear hko hk1
            have hq := neqC c' c'
            rw [(beq_iff c' c').2 rfl] at hq
            obtain ⟨hc, hf⟩ := bcell hbr
            go_wp2
            go_quiet (fail)
            go_wp2
            clear hc hf hq
            go_loopw [10] (fun j wr2 => ∃ m : Nat, m ≤ k ∧ j = .int .i64 m ∧ Below w5.heap.size w5 wr2) (fun j _ => k - (intOf j).toNat)
            case atStart => exact ⟨0, Nat.zero_le _, rfl, below_drewN hbr _⟩
            case round =>
            obtain ⟨m, hm, rfl, hbr2⟩ := hrel
            by_cases hlt2 : m < k
            · obtain ⟨d, hdk⟩ := h5.get (k := m) (by omega)
              obtain ⟨_, _, he, _, _, s0, s1, s2⟩ := h5.at_ hdk
              injection he with he
              injection he with he1 he2
              subst he1 he2
              have hdk' := number_cell hdk
              have hbd := Hbq.out m d hdk
              obtain ⟨d', hd'⟩ : ∃ d', turnC (placeI (varsF t)) d = d' := ⟨_, rfl⟩
              rw [hd'] at hdk' hbd
              clear hd'
              obtain ⟨_, _, he, _, _, t0, t1, t2⟩ := hN.at_ hdk'
              injection he with he
              injection he with he1 he2
              subst he1 he2
              have hq1 := eqC c' d
              have hq2 := eqC c' d'
              rw [hbd] at hq2
              clear hbd hdk hdk'
              obtain ⟨hc, hf⟩ := bcell hbr2
              have hw3 := Nat.lt_of_lt_of_le hbb1 hbr2.size
              have hw4 := Nat.lt_of_lt_of_le hbb2 hbr2.size
              go_wp2
              go_quiet (fail)
              go_wp2
              go_roundw
              case rel => exact ⟨m + 1, by omega, by go_num, below_drewN hbr2 _⟩
              case measure => simp [intOf]; omega
            · go_wp2
              go_roundw
              case rel => exact ⟨k + 1, by omega, by go_num, hbr2⟩
              case measure => simp [intOf]; omega
        · replace hb := hb.trans (hbr.mono hb.size)
          replace hN := hN.below hbr
          replace hV1 := hV1.below hbr
          rcases HS.out with hs0 | ⟨hs0, hns⟩
          · subst hs0
            go_wp2_with (first | (go_at_call 28; go_must (refine Calls.mono (tShift_any _ _ _ _ _ _ (h.below hb) (by omega)) ?_); intro e w6 hret; obtain ⟨S1, sc1, rfl, hS1, hbn⟩ := hret.at_ HSL.out; clear hret; replace hb := hb.trans (hbn.mono hb.size); replace hN := hN.below hbn; replace hV1 := hV1.below hbn; clear hbn) | (go_at_call 30; go_must (refine Calls.mono (tNumber_any _ _ _ _ _ (by first | exact hS1 | exact hN | exact h.below hb) (by omega)) ?_); (first | (rw [HNS.out]; intro e w5 hret; obtain ⟨X1, xc1, rfl, hX1, hbn⟩ := hret.at_ HNL.out; clear hret; replace hb := hb.trans (hbn.mono hb.size); replace hN := hN.below hbn; replace hV1 := hV1.below hbn; clear hbn) | (rw [HNN.out]; intro e w5 hret; obtain ⟨X1, xc1, rfl, hX1, hbn⟩ := hret.at_ HNL.out; clear hret; replace hb := hb.trans (hbn.mono hb.size); replace hN := hN.below hbn; replace hV1 := hV1.below hbn; clear hbn) | (intro e w1 hret; obtain ⟨N1, nc1, rfl, hN, hbn⟩ := hret.at_ HNL.out; clear hret; replace hb := hb.trans (hbn.mono hb.size); clear hbn))) | (go_at_call 16; go_must (refine Calls.mono (Calls.mono (tSame_any _ _ _ _ _ _ _ _ _ hX1 hN (by omega) (by omega)) (fun _ _ h => h.v)) ?_); rw [(sameC_iff _ _).2 rfl]; clear hX1; rintro e w5 ⟨rfl, hbn⟩; replace hb := hb.trans (hbn.mono hb.size); replace hN := hN.below hbn; replace hV1 := hV1.below hbn; clear hbn))
            go_ret
            exact ⟨rfl, hb⟩
          · subst hs0
            have HNS := Lib.hid hns
            clear hns HS
            go_wp2_with (first | (go_at_call 28; go_must (refine Calls.mono (tShift_any _ _ _ _ _ _ (h.below hb) (by omega)) ?_); intro e w6 hret; obtain ⟨S1, sc1, rfl, hS1, hbn⟩ := hret.at_ HSL.out; clear hret; replace hb := hb.trans (hbn.mono hb.size); replace hN := hN.below hbn; replace hV1 := hV1.below hbn; clear hbn) | (go_at_call 30; go_must (refine Calls.mono (tNumber_any _ _ _ _ _ (by first | exact hS1 | exact hN | exact h.below hb) (by omega)) ?_); (first | (rw [HNS.out]; intro e w5 hret; obtain ⟨X1, xc1, rfl, hX1, hbn⟩ := hret.at_ HNL.out; clear hret; replace hb := hb.trans (hbn.mono hb.size); replace hN := hN.below hbn; replace hV1 := hV1.below hbn; clear hbn) | (rw [HNN.out]; intro e w5 hret; obtain ⟨X1, xc1, rfl, hX1, hbn⟩ := hret.at_ HNL.out; clear hret; replace hb := hb.trans (hbn.mono hb.size); replace hN := hN.below hbn; replace hV1 := hV1.below hbn; clear hbn) | (intro e w1 hret; obtain ⟨N1, nc1, rfl, hN, hbn⟩ := hret.at_ HNL.out; clear hret; replace hb := hb.trans (hbn.mono hb.size); clear hbn))) | (go_at_call 16; go_must (refine Calls.mono (Calls.mono (tSame_any _ _ _ _ _ _ _ _ _ hX1 hN (by omega) (by omega)) (fun _ _ h => h.v)) ?_); rw [(sameC_iff _ _).2 rfl]; clear hX1; rintro e w5 ⟨rfl, hbn⟩; replace hb := hb.trans (hbn.mono hb.size); replace hN := hN.below hbn; replace hV1 := hV1.below hbn; clear hbn))
            go_ret
            exact ⟨rfl, hb⟩
end Go.Proofs.Ytnhfnpjfahmmpaa
