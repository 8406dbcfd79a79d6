/- Plain laws on the order of terms. No program in sight. -/
import Derived.Test.YtnhfnpjfahmmpaaPart
namespace Go.Proofs.Ytnhfnpjfahmmpaa
open Go.RowKit

/-! ### bytes -/
theorem bytesLess_nil (l : List UInt8) : Op.bytesLess l [] = false := by cases l <;> rfl
theorem bytesLess_cons (a b : UInt8) (l r : List UInt8) : Op.bytesLess (a :: l) (b :: r) = (decide (a < b) || (a == b && Op.bytesLess l r)) := rfl
theorem bytesLess_irrefl : ∀ l : List UInt8, Op.bytesLess l l = false
  | [] => rfl
  | a :: l => by
    rw [bytesLess_cons, bytesLess_irrefl l]
    simp
theorem bytesLess_asymm : ∀ l r : List UInt8, Op.bytesLess l r = true → Op.bytesLess r l = false
  | [], [] => by simp [Op.bytesLess]
  | [], b :: r => fun _ => rfl
  | a :: l, [] => by simp [bytesLess_nil]
  | a :: l, b :: r => by
    rw [bytesLess_cons, bytesLess_cons]
    intro h
    simp only [Bool.or_eq_true, decide_eq_true_eq, Bool.and_eq_true, beq_iff_eq] at h
    rcases h with h | ⟨h, h'⟩
    · have h1 : ¬ b < a := by rw [UInt8.lt_iff_toNat_lt] at h ⊢; omega
      have h2 : (b == a) = false := by rw [beq_eq_false_iff_ne]; rintro rfl; rw [UInt8.lt_iff_toNat_lt] at h; omega
      simp [h1, h2]
    · subst h
      have h1 : ¬ a < a := by rw [UInt8.lt_iff_toNat_lt]; omega
      simp [h1, bytesLess_asymm l r h']
theorem bytesLess_total : ∀ l r : List UInt8, Op.bytesLess l r = false → l ≠ r → Op.bytesLess r l = true
  | [], [] => by simp
  | [], b :: r => by simp [Op.bytesLess]
  | a :: l, [] => fun _ _ => rfl
  | a :: l, b :: r => by
    rw [bytesLess_cons, bytesLess_cons]
    intro h hne
    simp only [Bool.or_eq_false_iff, decide_eq_false_iff_not, Bool.and_eq_false_iff, beq_eq_false_iff_ne] at h
    obtain ⟨h1, h2⟩ := h
    by_cases hab : a = b
    · subst hab
      have h3 : Op.bytesLess l r = false := by rcases h2 with h2 | h2; exact absurd rfl h2; exact h2
      have h4 : l ≠ r := fun e => hne (by rw [e])
      simp [bytesLess_total l r h3 h4]
    · have : b < a := by
        rw [UInt8.lt_iff_toNat_lt] at h1 ⊢
        have : a.toNat ≠ b.toNat := fun e => hab (UInt8.toNat_inj.1 e)
        omega
      simp [this]
theorem bytesLess_trans : ∀ l r s : List UInt8, Op.bytesLess l r = true → Op.bytesLess r s = true → Op.bytesLess l s = true
  | _, _, [] => by simp [bytesLess_nil]
  | [], _, c :: s => fun _ _ => rfl
  | a :: l, [], c :: s => by simp [bytesLess_nil]
  | a :: l, b :: r, c :: s => by
    rw [bytesLess_cons, bytesLess_cons, bytesLess_cons]
    intro h h'
    simp only [Bool.or_eq_true, decide_eq_true_eq, Bool.and_eq_true, beq_iff_eq] at h h' ⊢
    rcases h with h | ⟨rfl, h⟩
    · rcases h' with h' | ⟨rfl, h'⟩
      · left; rw [UInt8.lt_iff_toNat_lt] at *; omega
      · left; exact h
    · rcases h' with h' | ⟨rfl, h'⟩
      · left; exact h'
      · right; exact ⟨rfl, bytesLess_trans l r s h h'⟩

/-! ### an order told by -1, 0, 1 -/
structure Cmp {α : Type} (f : α → α → Int) : Prop where
  range : ∀ a b, f a b = -1 ∨ f a b = 0 ∨ f a b = 1
  anti : ∀ a b, f b a = -f a b
  zero : ∀ a b, f a b = 0 ↔ a = b
  trans : ∀ a b c, f a b = -1 → f b c = -1 → f a c = -1
theorem toList_inj {a b : ByteArray} (h : a.toList = b.toList) : a = b := by
  rw [ByteArray.toList_eq, ByteArray.toList_eq] at h
  obtain ⟨⟨x⟩⟩ := a
  obtain ⟨⟨y⟩⟩ := b
  simp at h
  rw [h]
theorem cmpI_cmp : Cmp cmpI where
  range a b := by unfold cmpI; split <;> (try split) <;> simp
  anti a b := by unfold cmpI; split <;> split <;> (try split) <;> omega
  zero a b := by unfold cmpI; split <;> (try split) <;> omega
  trans a b c := by unfold cmpI; split <;> split <;> split <;> (try split) <;> omega
theorem cmpS_lt {a b : ByteArray} : cmpS a b = -1 ↔ Op.bytesLess a.toList b.toList = true := by
  unfold cmpS
  by_cases h : Op.bytesLess a.toList b.toList = true
  · simp [h]
  · by_cases h2 : (a.toList == b.toList) = true <;> simp [h, h2]
theorem cmpS_eq {a b : ByteArray} : cmpS a b = 0 ↔ a = b := by
  unfold cmpS
  by_cases h : Op.bytesLess a.toList b.toList = true
  · simp only [h, if_true]
    constructor
    · intro h; cases h
    · rintro rfl; rw [bytesLess_irrefl] at h; cases h
  · by_cases h2 : a.toList = b.toList
    · have := toList_inj h2
      subst this
      simp [bytesLess_irrefl]
    · have h3 : (a.toList == b.toList) = false := by simpa using h2
      simp only [h, h3]
      constructor
      · intro h; cases h
      · rintro rfl; exact absurd rfl h2
theorem cmpS_range (a b : ByteArray) : cmpS a b = -1 ∨ cmpS a b = 0 ∨ cmpS a b = 1 := by
  unfold cmpS; split <;> (try split) <;> simp
theorem cmpS_gt {a b : ByteArray} : cmpS a b = 1 ↔ Op.bytesLess b.toList a.toList = true := by
  constructor
  · intro h
    have h1 : Op.bytesLess a.toList b.toList = false := by
      rw [← Bool.not_eq_true, ← cmpS_lt, h]; omega
    have h2 : a ≠ b := fun e => by rw [cmpS_eq.2 e] at h; cases h
    exact bytesLess_total _ _ h1 fun e => h2 (toList_inj e)
  · intro h
    rcases cmpS_range a b with h1 | h1 | h1
    · rw [cmpS_lt] at h1; rw [bytesLess_asymm _ _ h1] at h; cases h
    · rw [cmpS_eq] at h1; subst h1; rw [bytesLess_irrefl] at h; cases h
    · exact h1
theorem cmpS_cmp : Cmp cmpS where
  range := cmpS_range
  anti a b := by
    rcases cmpS_range a b with h | h | h
    · have := cmpS_gt.2 (cmpS_lt.1 h); rw [h, this]; rfl
    · have := cmpS_eq.1 h; subst this; rw [h]; rfl
    · have := cmpS_lt.2 (cmpS_gt.1 h); rw [h, this]
  zero a b := cmpS_eq
  trans a b c := by
    rw [cmpS_lt, cmpS_lt, cmpS_lt]
    exact bytesLess_trans _ _ _

theorem cmpC_cmp : Cmp cmpC where
  range a b := by
    unfold cmpC
    split
    · exact cmpI_cmp.range _ _
    · split
      · exact cmpI_cmp.range _ _
      · exact cmpS_cmp.range _ _
  anti a b := by
    unfold cmpC
    have h1 := cmpI_cmp.anti a.kind b.kind
    have h2 := cmpI_cmp.anti a.n b.n
    have h3 := cmpS_cmp.anti a.name b.name
    rw [h1, h2, h3]
    by_cases e1 : cmpI a.kind b.kind = 0
    · by_cases e2 : cmpI a.n b.n = 0
      · simp [e1, e2]
      · have : -cmpI a.n b.n ≠ 0 := by omega
        simp [e1, e2, this]
    · have : -cmpI a.kind b.kind ≠ 0 := by omega
      simp [e1, this]
  zero a b := by
    unfold cmpC
    obtain ⟨k, s, n⟩ := a
    obtain ⟨k', s', n'⟩ := b
    have h1 := cmpI_cmp.zero k k'
    have h2 := cmpI_cmp.zero n n'
    have h3 := cmpS_cmp.zero s s'
    simp only [C.mk.injEq]
    by_cases e1 : cmpI k k' = 0
    · by_cases e2 : cmpI n n' = 0
      · have k1 := h1.1 e1
        have k2 := h2.1 e2
        simp only [e1, e2, ne_eq, not_true_eq_false, if_false]
        rw [h3]
        exact ⟨fun h => ⟨k1, h, k2⟩, fun h => h.2.1⟩
      · simp only [e1, e2, ne_eq, not_true_eq_false, if_false, not_false_eq_true, if_true, false_iff]
        rintro ⟨_, _, h⟩; exact e2 (h2.2 h)
    · simp only [e1, ne_eq, not_false_eq_true, if_true, false_iff]
      rintro ⟨h, _, _⟩; exact e1 (h1.2 h)
  trans a b c := by
    unfold cmpC
    have r1 := cmpI_cmp.range a.kind b.kind
    have z1 := cmpI_cmp.zero a.kind b.kind
    have z1' := cmpI_cmp.zero b.kind c.kind
    have t1 := cmpI_cmp.trans a.kind b.kind c.kind
    have z2 := cmpI_cmp.zero a.n b.n
    have z2' := cmpI_cmp.zero b.n c.n
    have t2 := cmpI_cmp.trans a.n b.n c.n
    have z3 := cmpS_cmp.zero a.name b.name
    have t3 := cmpS_cmp.trans a.name b.name c.name
    by_cases e1 : cmpI a.kind b.kind = 0
    · have k1 := z1.1 e1
      have c0 : cmpI a.kind a.kind = 0 := (cmpI_cmp.zero _ _).2 rfl
      rw [← k1]
      by_cases f1 : cmpI a.kind c.kind = 0
      · by_cases e2 : cmpI a.n b.n = 0
        · have k2 := z2.1 e2
          have c2 : cmpI a.n a.n = 0 := (cmpI_cmp.zero _ _).2 rfl
          rw [← k2]
          by_cases f2 : cmpI a.n c.n = 0
          · simp only [c0, c2, e1, f1, e2, f2, ne_eq, not_true_eq_false, if_false]
            exact t3
          · simp only [c0, c2, e1, f1, e2, f2, ne_eq, not_true_eq_false, not_false_eq_true, if_false, if_true]
            exact fun _ h => h
        · by_cases f2 : cmpI b.n c.n = 0
          · have k2 := z2'.1 f2
            rw [← k2]
            simp only [c0, e1, f1, e2, f2, ne_eq, not_true_eq_false, not_false_eq_true, if_false, if_true]
            exact fun h _ => h
          · simp only [c0, e1, f1, e2, f2, ne_eq, not_true_eq_false, not_false_eq_true, if_false, if_true]
            intro h h'
            rw [t2 h h']
            simp
      · simp only [e1, f1, ne_eq, not_true_eq_false, not_false_eq_true, if_false, if_true]
        exact fun _ h => h
    · by_cases f1 : cmpI b.kind c.kind = 0
      · have k1 := z1'.1 f1
        rw [← k1]
        simp only [e1, ne_eq, not_false_eq_true, if_true]
        exact fun h _ => h
      · simp only [e1, f1, ne_eq, not_false_eq_true, if_true]
        intro h h'
        rw [t1 h h']
        simp

theorem compareT_step (a b : C) (l r : List C) : compareT (a :: l) (b :: r) = if cmpC a b ≠ 0 then cmpC a b else compareT l r := rfl
theorem compareT_cmp : Cmp compareT where
  range := by
    intro a
    induction a with
    | nil => intro b; cases b <;> simp [compareT]
    | cons x l ih =>
      intro b
      cases b with
      | nil => simp [compareT]
      | cons y r =>
        rw [compareT_step]
        split
        · exact cmpC_cmp.range _ _
        · exact ih r
  anti := by
    intro a
    induction a with
    | nil => intro b; cases b <;> simp [compareT]
    | cons x l ih =>
      intro b
      cases b with
      | nil => simp [compareT]
      | cons y r =>
        rw [compareT_step, compareT_step, cmpC_cmp.anti x y]
        by_cases h : cmpC x y = 0
        · simp [h, ih r]
        · have : -cmpC x y ≠ 0 := by omega
          simp [h, this]
  zero := by
    intro a
    induction a with
    | nil => intro b; cases b <;> simp [compareT]
    | cons x l ih =>
      intro b
      cases b with
      | nil => simp [compareT]
      | cons y r =>
        rw [compareT_step]
        have hz := cmpC_cmp.zero x y
        by_cases h : cmpC x y = 0
        · have e := hz.1 h
          subst e
          simp [h, ih r]
        · simp only [ne_eq, h, not_false_eq_true, if_true, false_iff]
          intro e
          injection e with e1 e2
          exact h (hz.2 e1)
  trans := by
    intro a
    induction a with
    | nil =>
      intro b c
      cases c with
      | nil => cases b <;> simp [compareT]
      | cons z s => intro _ _; rfl
    | cons x l ih =>
      intro b c
      cases b with
      | nil => simp [compareT]
      | cons y r =>
        cases c with
        | nil => simp [compareT]
        | cons z s =>
          rw [compareT_step, compareT_step, compareT_step]
          have z1 := cmpC_cmp.zero x y
          have z2 := cmpC_cmp.zero y z
          have t := cmpC_cmp.trans x y z
          by_cases h : cmpC x y = 0
          · have e := z1.1 h
            subst e
            by_cases h' : cmpC x z = 0
            · simp only [h, h', ne_eq, not_true_eq_false, if_false]
              exact ih r s
            · simp only [h, h', ne_eq, not_true_eq_false, not_false_eq_true, if_false, if_true]
              exact fun _ h => h
          · by_cases h' : cmpC y z = 0
            · have e := z2.1 h'
              subst e
              simp only [h, ne_eq, not_false_eq_true, if_true]
              exact fun h _ => h
            · simp only [h, h', ne_eq, not_false_eq_true, if_true]
              intro g g'
              rw [t g g']
              simp

/-! ### the document's order is the same, of right terms -/
theorem cmpC_less (a b : C) (h : a ≠ b) : cmpC a b = if a.kind < b.kind ∨ a.kind = b.kind ∧ (a.n < b.n ∨ a.n = b.n ∧ Op.bytesLess a.name.toList b.name.toList = true) then -1 else 1 := by
  obtain ⟨k, s, n⟩ := a
  obtain ⟨k', s', n'⟩ := b
  unfold cmpC
  simp only
  by_cases h1 : k < k'
  · have : cmpI k k' = -1 := by simp [cmpI, h1]
    simp [this, h1]
  · by_cases h2 : k' < k
    · have : cmpI k k' = 1 := by simp [cmpI, h1, h2]
      have h3 : k ≠ k' := by omega
      simp [this, h1, h3]
    · obtain rfl : k = k' := by omega
      have : cmpI k k = 0 := by simp [cmpI]
      simp only [this, ne_eq, not_true_eq_false, if_false, Int.lt_irrefl, true_and, false_or]
      by_cases h1 : n < n'
      · have : cmpI n n' = -1 := by simp [cmpI, h1]
        simp [this, h1]
      · by_cases h2 : n' < n
        · have : cmpI n n' = 1 := by simp [cmpI, h1, h2]
          have h3 : n ≠ n' := by omega
          simp [this, h1, h3]
        · obtain rfl : n = n' := by omega
          have : cmpI n n = 0 := by simp [cmpI]
          have hs : s ≠ s' := by rintro rfl; exact h rfl
          simp only [this, ne_eq, not_true_eq_false, if_false, Int.lt_irrefl, true_and, false_or]
          rcases cmpS_range s s' with h4 | h4 | h4
          · rw [h4, if_pos (cmpS_lt.1 h4)]
          · exact absurd (cmpS_eq.1 h4) hs
          · rw [h4, if_neg]
            rw [← cmpS_lt, h4]; omega
theorem skip_none_prefix {t r : List C} {k : Nat} (h : skip t k = some []) (h' : skip (t ++ r) k = some []) : r = [] := by
  have := skip_append t r k h
  rw [h'] at this
  injection this with this
  exact this.symm
theorem compare_same : ∀ (a b : List C) (k : Nat), skip a k = some [] → skip b k = some [] → compareR a b = compareT a b := by
  intro a
  induction a with
  | nil =>
    intro b k h h'
    cases k with
    | zero => cases b with
      | nil => rfl
      | cons y r => rw [skip_zero] at h'; cases h'
    | succ k => rw [skip_nil _ (by omega)] at h; cases h
  | cons x l ih =>
    intro b k h h'
    cases b with
    | nil =>
      cases k with
      | zero => rw [skip_zero] at h; cases h
      | succ k => rw [skip_nil _ (by omega)] at h'; cases h'
    | cons y r =>
      rw [compareT_step]
      simp only [compareR]
      by_cases hxy : x = y
      · subst hxy
        have hz : cmpC x x = 0 := (cmpC_cmp.zero x x).2 rfl
        rw [if_pos ((beq_iff x x).2 rfl), if_neg (by simp [hz])]
        cases k with
        | zero => rw [skip_zero] at h; cases h
        | succ k =>
          rw [skip_cons] at h h'
          by_cases ho : x.ok
          · rw [if_pos ho] at h h'
            exact ih r _ h h'
          · rw [if_neg ho] at h; cases h
      · have hz : cmpC x y ≠ 0 := fun e => hxy ((cmpC_cmp.zero x y).1 e)
        rw [if_neg (by rw [Bool.not_eq_true, beq_no]; exact hxy), if_pos hz, cmpC_less x y hxy]
theorem compare_right {a b : List C} (h : rightB a = true) (h' : rightB b = true) : compareR a b = compareT a b :=
  compare_same a b 1 ((right_iff _).1 h).1 ((right_iff _).1 h').1
end Go.Proofs.Ytnhfnpjfahmmpaa
