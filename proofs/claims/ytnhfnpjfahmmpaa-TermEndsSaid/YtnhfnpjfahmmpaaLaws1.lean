/- The walk of the law TermParts; what all laws of layer 1 begin with. -/
import Derived.Test.YtnhfnpjfahmmpaaHead
namespace Go.Proofs.Ytnhfnpjfahmmpaa
open Go.RowKit

theorem great_yes (A : Option Addr) (n cap : Nat) (w : World) (hn : n ≤ maxLen) (h : 300 < n) : Calls Try.prog 13 #[.slice A n cap] w fun e w' => e = .returned (.bool true) ∧ w = w' := by
  unfold maxLen at hn
  go_enter Try.func13, Try.ntmps13
  go_wp2
  go_ret
  exact ⟨ret_bool (by simp; omega), rfl⟩
theorem great_no (A : Option Addr) (n cap : Nat) (w : World) (h : ¬ 300 < n) : Calls Try.prog 13 #[.slice A n cap] w fun e w' => e = .returned (.bool false) ∧ w = w' := by
  go_enter Try.func13, Try.ntmps13
  go_wp2
  go_ret
  exact ⟨ret_bool (by simp; omega), rfl⟩

theorem great_any (A : Option Addr) (n cap : Nat) (w : World) (hn : n ≤ maxLen) : Calls Try.prog 13 #[.slice A n cap] w fun e w' => e = .returned (.bool (decide (300 < n))) ∧ w = w' := by
  by_cases h : 300 < n
  · rw [decide_eq_true h]; exact great_yes A n cap w hn h
  · rw [decide_eq_false h]; exact great_no A n cap w h

/-- a term that is made of its parts is that term -/
theorem parts_whole {c : C} {cs : List C} (h : rightB (c :: cs) = true) (hk : c.kind = 3) :
    ((partsF (c :: cs)).length : Int) = c.n ∧ (partsF (c :: cs)).flatten = cs ∧ (partsF (c :: cs)).all rightB = true ∧ makeF c.name (partsF (c :: cs)) = c :: cs := by
  obtain ⟨h1, h2, h3, h4⟩ := (parts_splits h hk).flat
  have ho := (right_head h).1
  have har := ar_fun ho hk
  have hn : ((partsF (c :: cs)).length : Int) = c.n := by rw [h2]; exact har
  have hall : (partsF (c :: cs)).all rightB = true := by
    rw [List.all_eq_true]
    intro p hp
    exact (parts_right h hp).1
  have hmk : mkRow c.name (partsF (c :: cs)) = c :: cs := by
    unfold mkRow
    rw [hn, h1, ← hk]
  exact ⟨hn, h1, hall, by rw [make_yes hall (by rw [hmk]; exact h), hmk]⟩

set_option maxRecDepth 100000 in
set_option maxHeartbeats 1000000 in
theorem termParts_walk (A : Option Addr) (n cap : Nat) (t : List C) (w : World) (h : IsC w A n cap t) : Calls Try.prog 5 #[.slice A n cap] w (RetV w (.bool true)) := by
  have hcm := h.sl.hcap
  have hcx := h.sl.hmax
  by_cases h300 : 300 < n
  · go_enter Try.func5, Try.ntmps5
    go_wp2_with (first
      | (go_at_call 12; go_must (refine (head_any _).mono ?_); rintro e w1 ⟨rfl, hb⟩)
      | (go_at_call 13; go_must (refine (great_yes A n cap _ (by omega) h300).mono ?_); rintro e w1 ⟨rfl, rfl⟩))
    go_ret
    exact ⟨rfl, hb⟩
  · have hn1 : n ≤ 100000 := by omega
    cases hr : rightB t
    · have Hr := Lib.hid hr
      clear hr hcm hcx
      go_enter Try.func5, Try.ntmps5
      go_wp2_with (first
        | (go_at_call 12; go_must (refine (head_any _).mono ?_); rintro e w1 ⟨rfl, hb⟩)
        | (go_at_call 13; go_must (refine (great_no A n cap _ h300).mono ?_); rintro e w1 ⟨rfl, rfl⟩)
        | (go_at_call 14; go_must (refine (tRight_any A n cap t _ (h.below hb) hn1).mono ?_); rw [Hr.out]; rintro e w2 ⟨rfl, hb2⟩; replace hb := hb.trans (hb2.mono hb.size)))
      go_ret
      exact ⟨rfl, hb⟩
    · have hl := h.len
      have hl1 := skip_pos ((right_iff _).1 hr).1
      match t, hl1 with
      | c :: cs, _ =>
        have hc0 : (c :: cs)[0]? = some c := rfl
        obtain ⟨b, off, rfl, hbb, hwf, h0, h1, h2⟩ := h.at_ hc0
        simp only [Nat.zero_mul, Nat.add_zero] at h0 h1 h2
        have hn0 : (0 : Int) < (n : Int) := by simp at hl; omega
        have hr2 := ((right_iff _).1 hr).2
        by_cases hk3 : c.kind = 3
        · have hbk : (c.kind != 3) = false := by simp [hk3]
          obtain ⟨q1, q2, q3, q4⟩ := parts_whole hr hk3
          have hq5 : ∀ p ∈ partsF (c :: cs), rightB p = true := by rw [List.all_eq_true] at q3; exact q3
          have hq6 : ∀ p ∈ partsF (c :: cs), p.length ≤ 200 := fun p hp => ((right_iff _).1 (hq5 p hp)).2
          have hq7 : (partsF (c :: cs)).flatten.length + 1 = n := by rw [q2, ← hl]; rfl
          have Hr := Lib.hid hr
          have Hl := Lib.hid hl
          have Q1 := Lib.hid q1
          have Q4 := Lib.hid q4
          have Q5 := Lib.hid hq5
          have Q6 := Lib.hid hq6
          have Q7 := Lib.hid hq7
          have hp6 := parts_len hr
          clear hr hl hc0 hcm hcx hk3 q1 q2 q3 q4 hq5 hq6 hq7 hr2
          go_enter Try.func5, Try.ntmps5
          go_wp2_with (first
            | (go_at_call 12; go_must (refine (head_any _).mono ?_); rintro e w1 ⟨rfl, hb⟩)
            | (go_at_call 13; go_must (refine (great_no _ n cap _ h300).mono ?_); rintro e w1 ⟨rfl, rfl⟩)
            | (go_at_call 14; go_must (refine (tRight_any _ n cap (c :: cs) _ (h.below hb) hn1).mono ?_); rw [Hr.out]; rintro e w2 ⟨rfl, hb2⟩; replace hb := hb.trans (hb2.mono hb.size))
            | (go_at_call 26; go_must (refine (tParts_any _ n cap (c :: cs) _ (h.below hb) Hr.out).mono ?_); rintro e w3 ⟨Ap, np, cp, rfl, hp, hb3⟩; replace hb := hb.trans (hb3.mono hb.size); obtain ⟨hc, hf⟩ := bcell hb))
          have hnp := hp.len
          have hnp6 : np ≤ 6 := by omega
          have Hnp := Lib.hid hnp
          clear hnp
          go_loopw [5, 6] (fun o i wr => ∃ (k m : Nat), k ≤ np ∧ i = .int .i64 k ∧ o = .int .i64 m ∧ m ≤ 100000 ∧ Hid (m = ((partsF (c :: cs)).take k).flatten.length + 1) ∧ Below w3.heap.size w3 wr) (fun _ i _ => np - (intOf i).toNat)
          case atStart => exact ⟨0, 1, Nat.zero_le _, rfl, rfl, by omega, by simp [Hid], Below.refl _ _⟩
          case round =>
            obtain ⟨k, m, hk, rfl, rfl, hm, hres, hbr⟩ := hrel
            clear hc hf
            by_cases hlt : k < np
            · obtain ⟨p, hpk⟩ := hp.get hlt
              obtain ⟨b', off', A', n', c', rfl, hbb', h0', hcp⟩ := hp.at_ hpk
              have hrp := Q5.out p (List.mem_of_getElem? hpk)
              have hpl := hcp.len
              have hp1 : n' ≤ 200 := by rw [← hpl]; exact Q6.out p (List.mem_of_getElem? hpk)
              have hm' : m + n' ≤ 100000 := by
                have h1 := flatten_le (partsF (c :: cs)) (k + 1)
                rw [flatten_take hpk, List.length_append, hpl] at h1
                have := Q7.out
                have := hres.out
                omega
              have Hpk := Lib.hid hpk
              have Hrp := Lib.hid hrp
              have Hpl := Lib.hid hpl
              clear hpk hpl hrp
              obtain ⟨hc, hf⟩ := bcell hbr
              go_wp2_with (first
                | (go_at_call 14; go_must (refine (tRight_any A' n' c' p _ (hcp.below hbr) (by omega)).mono ?_); rw [Hrp.out]; rintro e w4 ⟨rfl, hb4⟩; replace hbr := hbr.trans (hb4.mono hbr.size); clear hc hf; obtain ⟨hc, hf⟩ := bcell hbr))
              go_roundw
              case rel => exact ⟨k + 1, m + n', by omega, by go_num, by go_num, hm', Lib.hid (by rw [flatten_take Hpk.out, List.length_append, Hpl.out]; have := hres.out; omega), hbr⟩
              case measure => simp [intOf]; omega
            · have hmn : m = n := by
                have := hres.out
                rw [List.take_of_length_le (by rw [Hnp.out]; omega)] at this
                have := Q7.out
                omega
              subst hmn
              have e1 : ((np : Int) == c.n) = true := by have := Q1.out; have := Hnp.out; simp; omega
              replace hb := hb.trans (hbr.mono hb.size)
              obtain ⟨hc, hf⟩ := bcell hb
              go_wp2_with (first
                | (go_at_call 34; go_must (refine (tMake_any c.name _ np cp (partsF (c :: cs)) _ (hp.below hbr) (by omega) (by have := Q7.out; omega) hwf.name).mono ?_); rw [Q4.out]; intro e w5 hret; obtain ⟨A5, c5, rfl, h5, hb5⟩ := hret.at_ Hl.out; clear hret; replace hb := hb.trans (hb5.mono hb.size))
                | (go_at_call 16; go_must (refine (tSame_any _ _ _ _ c5 cap _ _ _ h5 (h.below hb) (by omega) hn1).mono ?_); rw [(sameC_iff _ _).2 rfl]; rintro e w6 ⟨rfl, d, rfl⟩))
              go_ret
              exact ⟨rfl, below_drewN hb d⟩
        · have hbk : (c.kind != 3) = true := by simp [hk3]
          have hcs := alone hr hk3
          subst hcs
          have hpf := parts_other (cs := []) hk3
          have Hr := Lib.hid hr
          have Hpf := Lib.hid hpf
          obtain rfl : n = 1 := by rw [← hl]; rfl
          clear hr hl hc0 hcm hcx hk3 hpf hr2
          go_enter Try.func5, Try.ntmps5
          go_wp2_with (first
            | (go_at_call 12; go_must (refine (head_any _).mono ?_); rintro e w1 ⟨rfl, hb⟩)
            | (go_at_call 13; go_must (refine (great_no _ 1 cap _ h300).mono ?_); rintro e w1 ⟨rfl, rfl⟩)
            | (go_at_call 14; go_must (refine (tRight_any _ 1 cap [c] _ (h.below hb) hn1).mono ?_); rw [Hr.out]; rintro e w2 ⟨rfl, hb2⟩; replace hb := hb.trans (hb2.mono hb.size))
            | (go_at_call 26; go_must (refine (tParts_any _ 1 cap [c] _ (h.below hb) Hr.out).mono ?_); rw [Hpf.out]; rintro e w3 ⟨Ap, np, cp, rfl, hp, hb3⟩; replace hb := hb.trans (hb3.mono hb.size); obtain ⟨hc, hf⟩ := bcell hb; have hnp := hp.len; simp at hnp; subst hnp))
          go_ret
          exact ⟨rfl, hb⟩
end Go.Proofs.Ytnhfnpjfahmmpaa
