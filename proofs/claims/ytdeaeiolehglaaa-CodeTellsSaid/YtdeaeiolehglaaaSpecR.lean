/- What reading code back computes, in plain words. No program in sight. -/
import Derived.Test.YtdeaeiolehglaaaSpec10
import Derived.Test.YtdeaeiolehglaaaVoc10
set_option linter.unusedVariables false
set_option linter.unusedSimpArgs false
namespace Go.Proofs.Ytdeaeiolehglaaa
open Go.RowKit

def lk {α : Type} : List (Int × α) → Int → Option α
  | [], _ => none
  | p :: r, k => if p.1 = k then some p.2 else lk r k
def pt {α : Type} : List (Int × α) → Int → α → List (Int × α)
  | [], k, v => [(k, v)]
  | p :: r, k, v => if p.1 = k then (k, v) :: r else p :: pt r k v
theorem lk_pt {α : Type} (l : List (Int × α)) (k j : Int) (v : α) : lk (pt l k v) j = if k = j then some v else lk l j := by
  induction l with
  | nil => rfl
  | cons p r ih =>
    simp only [pt]
    split
    · rename_i h
      simp only [lk]
      by_cases hj : k = j
      · rw [if_pos hj, if_pos hj]
      · rw [if_neg hj, if_neg hj, if_neg (by rw [h]; exact hj)]
    · rename_i h
      simp only [lk]
      by_cases hp : p.1 = j
      · rw [if_pos hp, if_pos hp, if_neg (by rintro rfl; exact h hp)]
      · rw [if_neg hp, if_neg hp, ih]
theorem length_pt {α : Type} (l : List (Int × α)) (k : Int) (v : α) : (pt l k v).length ≤ l.length + 1 := by
  induction l with
  | nil => simp [pt]
  | cons p r ih =>
    simp only [pt]
    split <;> simp
    omega
/-- what registers hold, as code tells; and the open structure -/
structure Rm where
  same : List (Int × Int)
  ints : List (Int × Int)
  structs : List (Int × List In)
  opn : Int
def isPart (i : In) : Prop := i.op = 5 ∨ i.op = 6 ∨ i.op = 7 ∨ i.op = 9 ∨ i.op = 10 ∨ i.op = 11
instance (i : In) : Decidable (isPart i) := inferInstanceAs (Decidable (_ ∨ _))
def rdStep (r : Rm) (i : In) : Rm :=
  if i.op = 1 ∨ i.op = 2 then { r with same := pt r.same i.a i.x }
  else if i.op = 3 then { r with ints := pt r.ints i.a i.n }
  else if i.op = 4 ∨ i.op = 8 then { r with structs := pt r.structs i.a [i], opn := i.a }
  else if isPart i ∧ 0 ≤ r.opn then { r with structs := pt r.structs r.opn ((lk r.structs r.opn).getD [] ++ [i]) }
  else r
def readG (r : Rm) : List In → Rm
  | [] => r
  | i :: l => readG (rdStep r i) l
def readF (l : List In) : Rm := readG ⟨[], [], [], -1⟩ l
/-- variables' registers and numbers, and how many cells were made -/
structure Rv where
  vars : List (Int × Int)
  cells : Nat
def noName : ByteArray := ⟨#[]⟩
def restF (g : Rv → Int → Rv × List C) : Rv → List In → Rv × List C
  | v, [] => (v, [])
  | v, i :: l => if i.op = 7 ∨ i.op = 11 then ((restF g v l).1, ⟨2, noName, i.n⟩ :: (restF g v l).2) else ((restF g (g v i.x).1 l).1, (g v i.x).2 ++ (restF g (g v i.x).1 l).2)
def varF (v : Rv) (reg : Int) : Rv × List C :=
  match lk v.vars reg with
  | some k => (v, [⟨1, noName, k⟩])
  | none => ({ v with vars := pt v.vars reg v.vars.length }, [⟨1, noName, v.vars.length⟩])
def tick (v : Rv) : Rv := { v with cells := v.cells + 1 }
def termF (M : Rm) : Nat → Rv → Int → Rv × List C
  | 0, v, _ => (tick v, [])
  | f + 1, v, reg =>
    if 1809 < v.cells + 1 then (tick v, [])
    else match lk M.ints reg with
      | some n => (tick v, [⟨2, noName, n⟩])
      | none => match lk M.structs reg with
        | none => varF (tick v) ((lk M.same reg).getD reg)
        | some [] => (tick v, [])
        | some (h :: l) => ((restF (termF M f) (tick v) l).1, ⟨3, h.name, h.n⟩ :: (restF (termF M f) (tick v) l).2)
/-- how far a reading may go: K parts at most behind a structure -/
def potF (K : Nat) (c : Nat) : Nat := c + K * (1810 - c)
structure Grown (K : Nat) (v v' : Rv) (out : List C) : Prop where
  mono : v.cells + 1 ≤ v'.cells
  pot : potF K v'.cells ≤ potF K v.cells + 1
  len : out.length ≤ (K + 1) * (v'.cells - v.cells)
theorem pot_step (K c : Nat) (h : c + 1 ≤ 1809) : potF K (c + 1) + K = potF K c + 1 := by
  unfold potF
  have : 1810 - c = (1810 - (c + 1)) + 1 := by omega
  rw [this, Nat.mul_add]
  omega
theorem pot_over (K c : Nat) : potF K (c + 1) ≤ potF K c + 1 := by
  unfold potF
  have : K * (1810 - (c + 1)) ≤ K * (1810 - c) := Nat.mul_le_mul_left _ (by omega)
  omega
theorem var_cells (v : Rv) (r : Int) : (varF v r).1.cells = v.cells ∧ (varF v r).2.length = 1 := by
  unfold varF
  cases lk v.vars r <;> exact ⟨rfl, rfl⟩
theorem rest_grown (K : Nat) (g : Rv → Int → Rv × List C) (hg : ∀ v r, Grown K v (g v r).1 (g v r).2) : ∀ (l : List In) (v : Rv), v.cells ≤ (restF g v l).1.cells ∧ potF K (restF g v l).1.cells ≤ potF K v.cells + l.length ∧ (restF g v l).2.length ≤ l.length + (K + 1) * ((restF g v l).1.cells - v.cells)
  | [], v => by simp [restF]
  | i :: l, v => by
    unfold restF
    split
    · obtain ⟨h1, h2, h3⟩ := rest_grown K g hg l v
      exact ⟨h1, by simp; omega, by simp; omega⟩
    · obtain ⟨h1, h2, h3⟩ := rest_grown K g hg l (g v i.x).1
      obtain ⟨k1, k2, k3⟩ := hg v i.x
      refine ⟨by simp only; omega, by simp only [List.length_cons]; omega, ?_⟩
      simp only [List.length_append, List.length_cons]
      have : (restF g (g v i.x).1 l).1.cells - v.cells = ((restF g (g v i.x).1 l).1.cells - (g v i.x).1.cells) + ((g v i.x).1.cells - v.cells) := by omega
      rw [this, Nat.mul_add]
      omega
theorem term_grown (M : Rm) (K : Nat) (hM : ∀ k row, lk M.structs k = some row → row.length ≤ K + 1) : ∀ (f : Nat) (v : Rv) (r : Int), Grown K v (termF M f v r).1 (termF M f v r).2
  | 0, v, r => ⟨Nat.le_refl _, pot_over _ _, by simp [termF]⟩
  | f + 1, v, r => by
    unfold termF
    split
    · exact ⟨Nat.le_refl _, pot_over _ _, by simp⟩
    · rename_i hc
      have hone : ∀ (v' : Rv) (x : C), v'.cells = v.cells + 1 → Grown K v v' [x] := fun v' x hv => ⟨by omega, by rw [hv]; exact pot_over _ _, by rw [hv, Nat.add_sub_cancel_left]; simp⟩
      split
      · exact hone _ _ rfl
      · split
        · have h := var_cells (tick v) ((lk M.same r).getD r)
          exact ⟨by rw [h.1]; exact Nat.le_refl _, by rw [h.1]; exact pot_over _ _, by rw [h.1, h.2]; simp [tick]⟩
        · exact ⟨Nat.le_refl _, pot_over _ _, by simp⟩
        · rename_i h l hrow
          have hl := hM r _ hrow
          simp at hl
          obtain ⟨h1, h2, h3⟩ := rest_grown K (termF M f) (term_grown M K hM f) l (tick v)
          have hp := pot_step K v.cells (by omega)
          refine ⟨h1, ?_, ?_⟩
          · have : potF K (tick v).cells = potF K (v.cells + 1) := rfl
            simp only
            omega
          · simp only [List.length_cons]
            have hc2 : (tick v).cells = v.cells + 1 := rfl
            rw [hc2] at h1 h3
            have : (restF (termF M f) (tick v) l).1.cells - v.cells = ((restF (termF M f) (tick v) l).1.cells - (v.cells + 1)) + 1 := by omega
            rw [this, Nat.mul_add]
            omega
/-- variables' numbers are small -/
structure VOk (v : Rv) : Prop where
  len : v.vars.length ≤ v.cells
  num : ∀ r k, lk v.vars r = some k → 0 ≤ k ∧ k ≤ v.cells
theorem VOk.tick {v : Rv} (h : VOk v) : VOk (tick v) := ⟨by have := h.len; simp only [Go.Proofs.Ytdeaeiolehglaaa.tick]; omega, fun r k hk => by have := h.num r k hk; simp only [Go.Proofs.Ytdeaeiolehglaaa.tick]; omega⟩
theorem VOk.var {v : Rv} (h : VOk v) (r : Int) (hc : v.vars.length + 1 ≤ v.cells) : VOk (varF v r).1 := by
  unfold varF
  cases hl : lk v.vars r with
  | some k => exact h
  | none => exact ⟨by have := length_pt v.vars r (v.vars.length : Int); simp only; omega, fun q k hk => by
      simp only at hk
      rw [lk_pt] at hk
      split at hk
      · cases hk; have := h.len; exact ⟨by omega, by simp only; omega⟩
      · exact h.num q k hk⟩
theorem VOk.rest {g : Rv → Int → Rv × List C} (hg : ∀ v r, VOk v → VOk (g v r).1) : ∀ (l : List In) (v : Rv), VOk v → VOk (restF g v l).1
  | [], v, h => h
  | i :: l, v, h => by
    unfold restF
    split
    · exact VOk.rest hg l v h
    · exact VOk.rest hg l _ (hg v i.x h)
theorem VOk.term (M : Rm) : ∀ (f : Nat) (v : Rv) (r : Int), VOk v → VOk (termF M f v r).1
  | 0, v, r, h => h.tick
  | f + 1, v, r, h => by
    unfold termF
    split
    · exact h.tick
    · split
      · exact h.tick
      · split
        · exact h.tick.var _ (by have := h.len; simp only [Go.Proofs.Ytdeaeiolehglaaa.tick]; omega)
        · exact h.tick
        · exact VOk.rest (VOk.term M f) _ _ h.tick
/-- what registers hold is small -/
structure MOk (M : Rm) : Prop where
  ints : ∀ r n, lk M.ints r = some n → i64 n
  same : ∀ r n, lk M.same r = some n → i64 n
  rows : ∀ r row, lk M.structs r = some row → row ≠ [] ∧ (∀ i ∈ row, i.wf)
end Go.Proofs.Ytdeaeiolehglaaa
