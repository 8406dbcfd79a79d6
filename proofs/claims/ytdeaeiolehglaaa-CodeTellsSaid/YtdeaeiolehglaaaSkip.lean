/- Plain laws on passing over terms. No program in sight. -/
import Derived.Test.YtdeaeiolehglaaaSpec
set_option linter.unusedVariables false
set_option linter.unusedSimpArgs false
namespace Go.Proofs.Ytdeaeiolehglaaa
open Go.RowKit

theorem skip_zero (cs : List C) : skip cs 0 = some cs := by cases cs <;> rfl
theorem skip_cons (c : C) (cs : List C) (k : Nat) : skip (c :: cs) (k + 1) = if c.ok then skip cs (k + c.ar) else none := rfl
theorem skip_nil (k : Nat) (h : 0 < k) : skip [] k = none := by cases k <;> first | rfl | omega
theorem skip_add (cs : List C) : ∀ a b : Nat, skip cs (a + b) = (skip cs a).bind fun r => skip r b := by
  induction cs with
  | nil =>
    intro a b
    cases a with
    | zero => simp [skip_zero]
    | succ a => rw [skip_nil _ (by omega), skip_nil (a + 1) (by omega)]; rfl
  | cons c cs ih =>
    intro a b
    cases a with
    | zero => simp [skip_zero]
    | succ a =>
      rw [show a + 1 + b = (a + b) + 1 by omega, skip_cons, skip_cons]
      split
      · rw [show a + b + c.ar = (a + c.ar) + b by omega, ih]
      · rfl
theorem skip_suffix (cs : List C) : ∀ (k : Nat) (r : List C), skip cs k = some r → ∃ d, r = cs.drop d ∧ k ≤ d ∧ d ≤ cs.length := by
  induction cs with
  | nil =>
    intro k r h
    cases k with
    | zero => simp [skip_zero] at h; exact ⟨0, by simp [h], by omega, by simp⟩
    | succ k => rw [skip_nil _ (by omega)] at h; cases h
  | cons c cs ih =>
    intro k r h
    cases k with
    | zero => rw [skip_zero] at h; injection h with h; exact ⟨0, by simp [h], by omega, by simp⟩
    | succ k =>
      rw [skip_cons] at h
      split at h
      · obtain ⟨d, h1, h2, h3⟩ := ih _ _ h
        exact ⟨d + 1, by simpa using h1, by omega, by simpa using h3⟩
      · cases h

theorem endN_some {t : List C} {at_ e : Nat} : endN t at_ = some e ↔ skip (t.drop at_) 1 = some (t.drop e) ∧ at_ < e ∧ e ≤ t.length := by
  unfold endN
  constructor
  · intro h
    cases hs : skip (t.drop at_) 1 with
    | none => rw [hs] at h; cases h
    | some r =>
      rw [hs] at h
      obtain ⟨d, rfl, h1, h2⟩ := skip_suffix _ _ _ hs
      simp at h h2
      rw [List.drop_drop]
      refine ⟨by congr 2; omega, by omega, by omega⟩
  · rintro ⟨h, h1, h2⟩
    rw [h]
    simp; omega
theorem endN_none {t : List C} {at_ : Nat} : endN t at_ = none ↔ skip (t.drop at_) 1 = none := by
  unfold endN
  cases skip (t.drop at_) 1 <;> simp
theorem skip_drop_inj {t : List C} {a b : Nat} (ha : a ≤ t.length) (hb : b ≤ t.length) (h : t.drop a = t.drop b) : a = b := by
  have := congrArg List.length h
  simp at this
  omega
theorem endN_out {t : List C} {at_ : Nat} (h : t.length ≤ at_) : endN t at_ = none := by
  rw [endN_none, List.drop_of_length_le h]
  exact skip_nil 1 (by omega)
theorem endN_bad {t : List C} {at_ : Nat} {c : C} (hc : t[at_]? = some c) (h : c.ok = false) : endN t at_ = none := by
  rw [endN_none, drop_get hc, skip_cons, h]; rfl
/-- at a good cell: the arguments are passed over -/
theorem endN_good {t : List C} {at_ e : Nat} {c : C} (hc : t[at_]? = some c) (h : c.ok = true) (he : at_ < e) (hl : e ≤ t.length) (hs : skip (t.drop (at_ + 1)) c.ar = some (t.drop e)) : endN t at_ = some e := by
  rw [endN_some, drop_get hc, skip_cons, if_pos h, Nat.zero_add]
  exact ⟨hs, he, hl⟩
theorem endN_args {t : List C} {at_ : Nat} {c : C} (hc : t[at_]? = some c) (h : c.ok = true) (hs : skip (t.drop (at_ + 1)) c.ar = none) : endN t at_ = none := by
  rw [endN_none, drop_get hc, skip_cons, if_pos h, Nat.zero_add]
  exact hs
theorem ok_fun {c : C} (h : c.ok = true) (hk : c.kind = 3) : 0 ≤ c.n ∧ c.n ≤ 6 := by
  unfold C.ok at h
  simp [hk] at h
  omega
theorem ar_fun {c : C} (h : c.ok = true) (hk : c.kind = 3) : (c.ar : Int) = c.n := by
  have := ok_fun h hk
  simp [C.ar, hk]; omega
theorem ar_other {c : C} (hk : c.kind ≠ 3) : c.ar = 0 := by simp [C.ar, hk]
theorem endT_some {t : List C} {at_ e : Nat} (h : endN t at_ = some e) : endT t at_ = e := by simp [endT, h]
theorem endT_none {t : List C} {at_ : Nat} (h : endN t at_ = none) : endT t at_ = 0 := by simp [endT, h]
theorem endR_some {t : List C} {at_ e : Nat} (h : endN t at_ = some e) : endR t at_ = e := by simp [endR, h]
theorem endR_none {t : List C} {at_ : Nat} (h : endN t at_ = none) : endR t at_ = -1 := by simp [endR, h]
theorem right_R (t : List C) (n : Nat) (hl : t.length = n) (h1 : 1 ≤ n) (h2 : n ≤ 200) : (endR t 0 == (n : Int)) = rightB t := by
  subst hl
  unfold rightB endR
  cases h : endN t 0 with
  | none => simp [h1, h2] <;> omega
  | some e => rw [Bool.eq_iff_iff]; simp [h1, h2]; omega
theorem right_T (t : List C) (n : Nat) (hl : t.length = n) (h1 : 1 ≤ n) (h2 : n ≤ 200) : (endT t 0 == (n : Int)) = rightB t := by
  subst hl
  unfold rightB endT
  cases h : endN t 0 with
  | none => simp [h1, h2] <;> omega
  | some e => rw [Bool.eq_iff_iff]; simp [h1, h2]; omega
theorem right_no (t : List C) (n : Nat) (hl : t.length = n) (h : n < 1 ∨ 200 < n) : rightB t = false := by
  subst hl
  unfold rightB
  rcases h with h | h
  · simp; omega
  · simp; omega
end Go.Proofs.Ytdeaeiolehglaaa
