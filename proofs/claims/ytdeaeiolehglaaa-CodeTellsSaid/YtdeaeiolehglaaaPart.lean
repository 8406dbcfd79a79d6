/- Plain laws on a term and its parts. No program in sight. -/
import Derived.Test.YtdeaeiolehglaaaSkip
set_option linter.unusedVariables false
set_option linter.unusedSimpArgs false
namespace Go.Proofs.Ytdeaeiolehglaaa
open Go.RowKit

theorem skip_prefix (cs : List C) : ∀ (k : Nat) (r : List C), skip cs k = some r → ∃ p, cs = p ++ r ∧ skip p k = some [] := by
  induction cs with
  | nil =>
    intro k r h
    cases k with
    | zero => simp [skip_zero] at h; exact ⟨[], by simp [h], rfl⟩
    | succ k => rw [skip_nil _ (by omega)] at h; cases h
  | cons c cs ih =>
    intro k r h
    cases k with
    | zero => rw [skip_zero] at h; injection h with h; exact ⟨[], by simp [h], rfl⟩
    | succ k =>
      rw [skip_cons] at h
      split at h
      · rename_i ho
        obtain ⟨p, h1, h2⟩ := ih _ _ h
        exact ⟨c :: p, by simp [h1], by rw [skip_cons, if_pos ho]; exact h2⟩
      · cases h
theorem skip_append (p r : List C) : ∀ k : Nat, skip p k = some [] → skip (p ++ r) k = some r := by
  induction p with
  | nil =>
    intro k h
    cases k with
    | zero => exact skip_zero r
    | succ k => rw [skip_nil _ (by omega)] at h; cases h
  | cons c p ih =>
    intro k h
    cases k with
    | zero => rw [skip_zero] at h; cases h
    | succ k =>
      rw [skip_cons] at h
      split at h
      · rename_i ho
        rw [List.cons_append, skip_cons, if_pos ho]
        exact ih _ h
      · cases h
theorem skip_pos {t : List C} (h : skip t 1 = some []) : 1 ≤ t.length := by
  cases t with
  | nil => rw [skip_nil _ (by omega)] at h; cases h
  | cons c t => simp
theorem endN_zero {t : List C} : endN t 0 = some t.length ↔ skip t 1 = some [] := by
  rw [endN_some]
  simp
  intro h
  have := skip_pos h
  omega
theorem right_iff (t : List C) : rightB t = true ↔ skip t 1 = some [] ∧ t.length ≤ 200 := by
  simp only [rightB, Bool.and_eq_true, decide_eq_true_eq, beq_iff_eq, endN_zero]
  constructor
  · rintro ⟨⟨_, h⟩, h'⟩; exact ⟨h', h⟩
  · rintro ⟨h', h⟩; exact ⟨⟨skip_pos h', h⟩, h'⟩

/-- 'l' are the parts, one behind the other, of what 'k' terms take up -/
inductive Splits : List C → Nat → List (List C) → Prop
  | nil : Splits [] 0 []
  | cons {p r : List C} {k : Nat} {l : List (List C)} : skip p 1 = some [] → Splits r k l → Splits (p ++ r) (k + 1) (p :: l)
theorem Splits.flat {cs : List C} {k : Nat} {l : List (List C)} (h : Splits cs k l) : l.flatten = cs ∧ l.length = k ∧ (∀ p ∈ l, skip p 1 = some []) ∧ skip cs k = some [] := by
  induction h with
  | nil => exact ⟨rfl, rfl, by simp, rfl⟩
  | cons hp _ ih =>
    obtain ⟨h1, h2, h3, h4⟩ := ih
    refine ⟨by simp [h1], by simp [h2], ?_, ?_⟩
    · intro q hq
      rcases List.mem_cons.1 hq with rfl | hq
      · exact hp
      · exact h3 q hq
    · rw [Nat.add_comm, skip_add, skip_append _ _ _ hp]
      exact h4
theorem splits_of {l : List (List C)} (h : ∀ p ∈ l, skip p 1 = some []) : Splits l.flatten l.length l := by
  induction l with
  | nil => exact .nil
  | cons p l ih => exact .cons (h p (by simp)) (ih fun q hq => h q (by simp [hq]))
theorem partsA_splits (t : List C) : ∀ (k at_ : Nat), at_ ≤ t.length → skip (t.drop at_) k = some [] → Splits (t.drop at_) k (partsA t k at_) := by
  intro k
  induction k with
  | zero =>
    intro at_ hl h
    rw [skip_zero] at h
    injection h with h
    rw [h]
    exact .nil
  | succ k ih =>
    intro at_ hl h
    rw [show k + 1 = 1 + k by omega, skip_add] at h
    cases hs : skip (t.drop at_) 1 with
    | none => rw [hs] at h; cases h
    | some r =>
      rw [hs] at h
      obtain ⟨d, rfl, hd1, hd2⟩ := skip_suffix _ _ _ hs
      rw [List.drop_drop] at hs h
      have hd3 : at_ + d ≤ t.length := by simp at hd2; omega
      have he : endN t at_ = some (at_ + d) := endN_some.2 ⟨hs, by omega, hd3⟩
      obtain ⟨p, hp1, hp2⟩ := skip_prefix _ _ _ hs
      have hpl : p.length = d := by
        have := congrArg List.length hp1
        simp at this
        omega
      have htake : (t.drop at_).take (at_ + d - at_) = p := by
        rw [hp1, show at_ + d - at_ = p.length by omega]
        exact List.take_left
      have hpa : partsA t (k + 1) at_ = p :: partsA t k (at_ + d) := by simp only [partsA, he, htake]
      rw [hpa, hp1]
      exact .cons hp2 (ih (at_ + d) hd3 h)

theorem right_head {c : C} {cs : List C} (h : rightB (c :: cs) = true) : c.ok = true ∧ skip cs c.ar = some [] := by
  obtain ⟨h, _⟩ := (right_iff _).1 h
  rw [skip_cons] at h
  split at h
  · rename_i ho
    exact ⟨ho, by simpa using h⟩
  · cases h
theorem parts_splits {c : C} {cs : List C} (h : rightB (c :: cs) = true) (hk : c.kind = 3) : Splits cs c.ar (partsF (c :: cs)) := by
  obtain ⟨_, hs⟩ := right_head h
  have := partsA_splits (c :: cs) c.ar 1 (by simp) (by simpa using hs)
  simpa [partsF, hk, C.ar] using this
theorem parts_other {c : C} {cs : List C} (hk : c.kind ≠ 3) : partsF (c :: cs) = [] := by simp [partsF, hk]
theorem alone {c : C} {cs : List C} (h : rightB (c :: cs) = true) (hk : c.kind ≠ 3) : cs = [] := by
  obtain ⟨_, hs⟩ := right_head h
  rw [ar_other hk, skip_zero] at hs
  injection hs
theorem mem_length {l : List (List C)} {p : List C} (h : p ∈ l) : p.length ≤ l.flatten.length := by
  induction l with
  | nil => cases h
  | cons q l ih =>
    simp only [List.flatten_cons, List.length_append]
    rcases List.mem_cons.1 h with rfl | h
    · omega
    · have := ih h; omega
theorem parts_right {t p : List C} (h : rightB t = true) (hp : p ∈ partsF t) : rightB p = true ∧ p.length < t.length := by
  match t, h with
  | [], h => simp [partsF] at hp
  | c :: cs, h =>
    by_cases hk : c.kind = 3
    · have hs := parts_splits h hk
      obtain ⟨h1, h2, h3, _⟩ := hs.flat
      have hl := mem_length hp
      rw [h1] at hl
      have := ((right_iff _).1 h).2
      simp only [List.length_cons] at *
      exact ⟨(right_iff _).2 ⟨h3 p hp, by omega⟩, by omega⟩
    · rw [parts_other hk] at hp
      cases hp

theorem parts_len {t : List C} (h : rightB t = true) : (partsF t).length ≤ 6 := by
  match t, h with
  | [], h => simp [partsF]
  | c :: cs, h =>
    by_cases hk : c.kind = 3
    · have := (parts_splits h hk).flat.2.1
      have h6 := ok_fun (right_head h).1 hk
      have := ar_fun (right_head h).1 hk
      omega
    · rw [parts_other hk]; simp
def maxA (d : List C → Nat) : Nat → List (List C) → Nat
  | m, [] => m
  | m, p :: l => maxA d (max m (d p)) l
def depthN : Nat → List C → Nat
  | 0, _ => 0
  | f + 1, t => maxA (depthN f) 0 (partsF t) + 1
def depthF (t : List C) : Nat := depthN t.length t
theorem maxA_congr {d d' : List C → Nat} : ∀ (l : List (List C)) (m : Nat), (∀ p ∈ l, d p = d' p) → maxA d m l = maxA d' m l
  | [], _, _ => rfl
  | p :: l, m, h => by
    simp only [maxA]
    rw [h p (by simp)]
    exact maxA_congr l _ fun q hq => h q (by simp [hq])
theorem maxA_le {d : List C → Nat} {b : Nat} : ∀ (l : List (List C)) (m : Nat), m ≤ b → (∀ p ∈ l, d p ≤ b) → maxA d m l ≤ b
  | [], _, h, _ => h
  | p :: l, m, h, hl => maxA_le l _ (by have := hl p (by simp); omega) fun q hq => hl q (by simp [hq])
theorem depthN_fuel : ∀ (f f' : Nat) (t : List C), rightB t = true → t.length ≤ f → t.length ≤ f' → depthN f t = depthN f' t := by
  intro f
  induction f with
  | zero => intro f' t h h1 _; have := skip_pos ((right_iff _).1 h).1; omega
  | succ f ih =>
    intro f' t h h1 h2
    cases f' with
    | zero => have := skip_pos ((right_iff _).1 h).1; omega
    | succ f' =>
      simp only [depthN]
      rw [maxA_congr (d' := depthN f')]
      intro p hp
      obtain ⟨hr, hl⟩ := parts_right h hp
      exact ih f' p hr (by omega) (by omega)
theorem depthN_le : ∀ (f : Nat) (t : List C), depthN f t ≤ f := by
  intro f
  induction f with
  | zero => intro t; exact Nat.le_refl _
  | succ f ih =>
    intro t
    simp only [depthN]
    have := maxA_le (d := depthN f) (b := f) (partsF t) 0 (Nat.zero_le _) fun p _ => ih p
    omega
theorem depthF_eq {t : List C} (h : rightB t = true) : depthF t = maxA depthF 0 (partsF t) + 1 := by
  have h1 := skip_pos ((right_iff _).1 h).1
  obtain ⟨f, hf⟩ : ∃ f, t.length = f + 1 := ⟨t.length - 1, by omega⟩
  unfold depthF
  rw [hf]
  simp only [depthN]
  rw [maxA_congr (d' := fun p => depthN p.length p)]
  intro p hp
  obtain ⟨hr, hl⟩ := parts_right h hp
  exact depthN_fuel _ _ _ hr (by omega) (Nat.le_refl _)
end Go.Proofs.Ytdeaeiolehglaaa
