/- The walk of the law TermMakes. -/
import Derived.Test.YtnhfnpjfahmmpaaLaws1
import Derived.Test.YtnhfnpjfahmmpaaPlain3
namespace Go.Proofs.Ytnhfnpjfahmmpaa
open Go.RowKit
theorem make_parts {s : ByteArray} {l : List (List C)} (h : makeF s l ≠ []) : rightB (makeF s l) = true ∧ partsF (makeF s l) = l := by
  unfold makeF at h ⊢
  split at h
  · rename_i hc
    rw [if_pos hc]
    simp only [Bool.and_eq_true, List.all_eq_true] at hc
    refine ⟨hc.2, ?_⟩
    have h1 := parts_splits hc.2 rfl
    have e : C.ar ⟨3, s, (l.length : Int)⟩ = l.length := by simp [C.ar]
    rw [e] at h1
    exact h1.unique (splits_of fun p hp => ((right_iff _).1 (hc.1 p hp)).1)
  · exact absurd rfl h
theorem flat_le {l : List (List C)} {k : Nat} (h : ∀ t ∈ l, t.length ≤ k) : l.flatten.length ≤ l.length * k := by
  induction l with
  | nil => simp
  | cons t l ih =>
    have h1 := h t (by simp)
    have h2 := ih fun t ht => h t (by simp [ht])
    simp only [List.flatten_cons, List.length_append, List.length_cons, Nat.succ_mul]
    omega
theorem make_len (s : ByteArray) (l : List (List C)) : (makeF s l).length ≤ l.flatten.length + 1 := by
  unfold makeF
  split
  · simp
  · simp

set_option maxRecDepth 100000 in
set_option maxHeartbeats 4000000 in
theorem termMakes_walk (s : ByteArray) (A : Option Addr) (n cap : Nat) (ts : List (List C)) (w : World) (hs : s.size ≤ maxLen) (h : IsCC w A n cap ts) : Calls Try.prog 4 #[.string s, .slice A n cap] w (RetV w (.bool true)) := by
  have hm1 : n ≤ maxLen := by
    obtain ⟨vs, h1, _⟩ := h.rows
    exact Nat.le_trans h1.hcap h1.hmax
  have hm2 : maxLen = 9223372036854775807 ∨ maxLen < 9223372036854775807 := by unfold maxLen; omega
  by_cases g1 : 40 < s.size
  · go_enter Try.func4, Try.ntmps4
    go_wp2_with (first | (go_at_call 12; go_must (refine (head_any _).mono ?_); rintro e w1 ⟨rfl, hb⟩))
    go_ret
    exact ⟨rfl, hb⟩
  by_cases g2 : 10 < n
  · go_enter Try.func4, Try.ntmps4
    go_wp2_with (first | (go_at_call 12; go_must (refine (head_any _).mono ?_); rintro e w1 ⟨rfl, hb⟩))
    go_ret
    exact ⟨rfl, hb⟩
  have hl := h.len
  have HL := Lib.hid hl
  clear hl
  go_enter Try.func4, Try.ntmps4
  go_wp2_with (first | (go_at_call 12; go_must (refine (head_any _).mono ?_); rintro e w1 ⟨rfl, hb⟩))
  obtain ⟨hc, hf⟩ := bcell hb
  go_loopw [6] (fun i wr => ∃ k : Nat, k ≤ n ∧ i = .int .i64 k ∧ Hid (∀ t ∈ ts.take k, t.length ≤ 300) ∧ w1 = wr) (fun i _ => n - (intOf i).toNat)
  case atStart => exact ⟨0, Nat.zero_le _, rfl, Lib.hid (by simp), by first | rfl | trivial⟩
  case round =>
    obtain ⟨k, hk, rfl, hres, rfl⟩ := hrel
    by_cases hlt : k < n
    · obtain ⟨p, hpk⟩ := h.get hlt
      obtain ⟨b', off', A', n', c', rfl, hbb', h0', hcp⟩ := h.at_ hpk
      have hn' : n' ≤ maxLen := Nat.le_trans hcp.sl.hcap hcp.sl.hmax
      have hpl := hcp.len
      have Hpl := Lib.hid hpl
      have Hpk := Lib.hid hpk
      clear hpk hpl
      by_cases g3 : 300 < n'
      · have G3 := Lib.hid (decide_eq_true g3)
        go_wp2_with (first | (go_at_call 13; go_must (refine Calls.mono (great_any _ _ _ _ (by assumption)) ?_); rw [G3.out]; rintro e w1 ⟨rfl, rfl⟩))
        go_ret
        exact ⟨rfl, hb⟩
      · have G3 := Lib.hid (decide_eq_false g3)
        go_wp2_with (first | (go_at_call 13; go_must (refine Calls.mono (great_any _ _ _ _ (by assumption)) ?_); rw [G3.out]; rintro e w1 ⟨rfl, rfl⟩))
        go_roundw
        case rel =>
          refine ⟨k + 1, by omega, by go_num, Lib.hid ?_, by first | rfl | trivial⟩
          intro t ht
          obtain ⟨hl, he⟩ := List.getElem?_eq_some_iff.1 Hpk.out
          rw [List.take_succ_eq_append_getElem hl, he] at ht
          rcases List.mem_append.1 ht with ht | ht
          · exact hres.out t ht
          · simp at ht; subst ht; rw [Hpl.out]; omega
        case measure => simp [intOf]; omega
    · have h300 : ∀ t ∈ ts, t.length ≤ 300 := by
        have := hres.out
        rwa [List.take_of_length_le (by rw [HL.out]; omega)] at this
      have hfl := flat_le h300
      rw [HL.out] at hfl
      have hfl3 : ts.flatten.length ≤ 3000 := by have : n * 300 ≤ 10 * 300 := Nat.mul_le_mul_right _ (by omega); omega
      have hml := make_len s ts
      obtain ⟨tn, htn⟩ : ∃ tn, (makeF s ts).length = tn := ⟨_, rfl⟩
      rw [htn] at hml
      have PL : Hid (∀ t ∈ ts, t.length ≤ 100000) := Lib.hid fun t ht => by have := h300 t ht; omega
      have HT := Lib.hid htn
      by_cases h0 : tn = 0
      · subst h0
        clear hres h300 hfl htn
        go_wp2_with (first | (go_at_call 34; go_must (refine Calls.mono (tMake_any _ _ _ _ _ _ (h.below hb) (by omega) (by omega) hs) ?_); intro e w1 hret; obtain ⟨X1, xc1, rfl, hX1, hbn⟩ := hret.at_ HT.out; clear hret; replace hb := hb.trans (hbn.mono hb.size); clear hbn) | (go_at_call 35; go_must (refine Calls.mono (rMake_any _ _ _ _ _ _ (h.below hb) (by omega) (by omega) hs) ?_); intro e w1 hret; obtain ⟨X2, xc2, rfl, hX2, hbn⟩ := hret.at_ HT.out; clear hret; replace hb := hb.trans (hbn.mono hb.size); replace hX1 := hX1.below hbn; clear hbn) | (go_at_call 17; go_must (refine Calls.mono (Calls.mono (rSame_any _ _ _ _ _ _ _ _ _ hX1 hX2 (by omega) (by omega)) (fun _ _ h => h.v)) ?_); rw [(sameC_iff _ _).2 rfl]; rintro e w1 ⟨rfl, hbn⟩; replace hb := hb.trans (hbn.mono hb.size); replace hX1 := hX1.below hbn; clear hbn))
        go_ret
        exact ⟨rfl, hb⟩
      · have hne : makeF s ts ≠ [] := by intro e; rw [e] at htn; exact h0 htn.symm
        obtain ⟨q1, q2⟩ := make_parts hne
        have Q1 := Lib.hid q1
        have Q2 := Lib.hid q2
        clear hres h300 hfl htn hne q1 q2
        go_wp2_with (first | (go_at_call 34; go_must (refine Calls.mono (tMake_any _ _ _ _ _ _ (h.below hb) (by omega) (by omega) hs) ?_); intro e w1 hret; obtain ⟨X1, xc1, rfl, hX1, hbn⟩ := hret.at_ HT.out; clear hret; replace hb := hb.trans (hbn.mono hb.size); clear hbn) | (go_at_call 35; go_must (refine Calls.mono (rMake_any _ _ _ _ _ _ (h.below hb) (by omega) (by omega) hs) ?_); intro e w1 hret; obtain ⟨X2, xc2, rfl, hX2, hbn⟩ := hret.at_ HT.out; clear hret; replace hb := hb.trans (hbn.mono hb.size); replace hX1 := hX1.below hbn; clear hbn) | (go_at_call 17; go_must (refine Calls.mono (Calls.mono (rSame_any _ _ _ _ _ _ _ _ _ hX1 hX2 (by omega) (by omega)) (fun _ _ h => h.v)) ?_); rw [(sameC_iff _ _).2 rfl]; rintro e w1 ⟨rfl, hbn⟩; replace hb := hb.trans (hbn.mono hb.size); replace hX1 := hX1.below hbn; clear hbn) | (go_at_call 14; go_must (refine Calls.mono (tRight_any _ _ _ _ _ hX1 (by omega)) ?_); rw [Q1.out]; rintro e w1 ⟨rfl, hbn⟩; replace hb := hb.trans (hbn.mono hb.size); replace hX1 := hX1.below hbn; clear hbn) | (go_at_call 26; go_must (refine Calls.mono (tParts_any _ _ _ _ _ hX1 Q1.out) ?_); rw [Q2.out]; rintro e w1 ⟨P1, pn1, pc1, rfl, hP1, hbn⟩; replace hb := hb.trans (hbn.mono hb.size); clear hbn) | (go_at_call 25; go_must (refine Calls.mono (Calls.mono (SameAll_any _ _ _ _ _ _ _ _ _ hP1 (h.below hb) (by have := hP1.len; have := HL.out; omega) (by omega) PL.out PL.out) (fun _ _ h => h.v)) ?_); rw [(sameCC_iff _ _).2 rfl]; rintro e w1 ⟨rfl, hbn⟩; replace hb := hb.trans (hbn.mono hb.size); clear hbn))
        go_ret
        exact ⟨rfl, hb⟩
end Go.Proofs.Ytnhfnpjfahmmpaa
