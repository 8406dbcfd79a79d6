/- Plain laws on depth and variables. No program in sight. -/
import Derived.Test.YtlndjooddkjnoaaB0
set_option linter.unusedVariables false
set_option linter.unusedSimpArgs false
namespace Go.Proofs.Ytlndjooddkjnoaa
open Go.RowKit

/-! ### depth -/
theorem depthF_le (t : List C) : depthF t ≤ t.length := depthN_le _ _
theorem maxA_ge {d : List C → Nat} : ∀ (l : List (List C)) (m : Nat), m ≤ maxA d m l
  | [], _ => Nat.le_refl _
  | p :: l, m => by have := maxA_ge (d := d) l (max m (d p)); simp only [maxA]; omega
theorem maxA_mem {d : List C → Nat} : ∀ (l : List (List C)) (m : Nat), ∀ p ∈ l, d p ≤ maxA d m l
  | [], _ => by simp
  | q :: l, m => by
    intro p hp
    simp only [maxA]
    rcases List.mem_cons.1 hp with rfl | hp
    · have := maxA_ge (d := d) l (max m (d p)); omega
    · exact maxA_mem l _ p hp
theorem depthF_one {t : List C} (h : rightB t = true) : depthF t = 1 ↔ t.length = 1 := by
  match t, h with
  | [], h => simp [rightB] at h
  | c :: cs, h =>
    have he := depthF_eq h
    constructor
    · intro h1
      by_cases hk : c.kind = 3
      · have hs := (parts_splits h hk).flat.1
        cases hp : partsF (c :: cs) with
        | nil => rw [hp] at hs; simp at hs; simp [hs]
        | cons p l =>
          have hp1 : p ∈ partsF (c :: cs) := by rw [hp]; simp
          have := maxA_mem (d := depthF) (partsF (c :: cs)) 0 p hp1
          have h2 := depthF_eq (parts_right h hp1).1
          omega
      · rw [alone h hk]; rfl
    · intro h1
      have := depthF_le (c :: cs)
      omega

/-! ### variables -/
theorem varsA_nil (acc : List Int) : varsA acc [] = acc := rfl
theorem varsA_step (acc : List Int) (c : C) (cs : List C) : varsA acc (c :: cs) = if c.kind = 1 ∧ inI acc c.n = false then varsA (acc ++ [c.n]) cs else varsA acc cs := rfl
theorem varsA_append (p r : List C) : ∀ acc, varsA acc (p ++ r) = varsA (varsA acc p) r := by
  induction p with
  | nil => intro acc; rfl
  | cons c p ih =>
    intro acc
    rw [List.cons_append, varsA_step, varsA_step]
    split
    · exact ih _
    · exact ih _
/-- so many numbers more, each once -/
def mergeV : List Int → List Int → List Int
  | acc, [] => acc
  | acc, x :: l => if inI acc x then mergeV acc l else mergeV (acc ++ [x]) l
theorem mergeV_nil (acc : List Int) : mergeV acc [] = acc := rfl
theorem mergeV_step (acc : List Int) (x : Int) (l : List Int) : mergeV acc (x :: l) = if inI acc x then mergeV acc l else mergeV (acc ++ [x]) l := rfl
theorem inI_append (l : List Int) (x y : Int) : inI (l ++ [x]) y = (inI l y || x == y) := by simp [inI]
theorem mergeV_in (acc l : List Int) (y : Int) : inI (mergeV acc l) y = (inI acc y || inI l y) := by
  induction l generalizing acc with
  | nil => simp [mergeV, inI]
  | cons x l ih =>
    rw [mergeV_step]
    split
    · rename_i h
      rw [ih]
      unfold inI
      rw [List.any_cons]
      by_cases hxy : x = y
      · subst hxy
        have : (acc.any fun y => y == x) = true := h
        rw [this]; rfl
      · have : (x == y) = false := by simpa using hxy
        rw [this]; rfl
    · rw [ih, inI_append]
      unfold inI
      rw [List.any_cons, Bool.or_assoc]
theorem mergeV_snoc (acc l : List Int) (x : Int) : mergeV acc (l ++ [x]) = if inI (mergeV acc l) x then mergeV acc l else mergeV acc l ++ [x] := by
  induction l generalizing acc with
  | nil => rw [List.nil_append, mergeV_step, mergeV_nil, mergeV_nil]
  | cons y l ih =>
    rw [List.cons_append, mergeV_step, mergeV_step]
    split
    · exact ih _
    · exact ih _
theorem varsA_merge (cs : List C) : ∀ acc b, mergeV acc (varsA b cs) = varsA (mergeV acc b) cs := by
  induction cs with
  | nil => intro acc b; rfl
  | cons c cs ih =>
    intro acc b
    rw [varsA_step, varsA_step]
    by_cases hk : c.kind = 1
    · cases hb : inI b c.n
      · rw [if_pos ⟨hk, rfl⟩, ih, mergeV_snoc]
        cases hm : inI (mergeV acc b) c.n
        · rw [if_neg (by simp), if_pos ⟨hk, rfl⟩]
        · rw [if_pos rfl, if_neg (fun h => by cases h.2)]
      · have hm : inI (mergeV acc b) c.n = true := by rw [mergeV_in, hb]; simp
        rw [if_neg (fun h => by cases h.2), if_neg (fun h => by rw [hm] at h; cases h.2), ih]
    · rw [if_neg (fun h => hk h.1), if_neg (fun h => hk h.1), ih]
theorem varsA_part (acc : List Int) (p : List C) : varsA acc p = mergeV acc (varsF p) := by
  rw [varsF, varsA_merge]; rfl
theorem vars_flat (l : List (List C)) (acc : List Int) (k : Nat) (p : List C) (h : l[k]? = some p) : varsA acc (l.take (k + 1)).flatten = mergeV (varsA acc (l.take k).flatten) (varsF p) := by
  obtain ⟨hl, he⟩ := List.getElem?_eq_some_iff.1 h
  rw [List.take_succ_eq_append_getElem hl, he, List.flatten_append, varsA_append, ← varsA_part]
  simp
theorem vars_fun {c : C} (cs : List C) (hk : c.kind ≠ 1) : varsF (c :: cs) = varsF cs := by
  rw [varsF, varsA_step, if_neg (by simp [hk])]; rfl
theorem vars_in (cs : List C) : ∀ acc x, inI (varsA acc cs) x = (inI acc x || cs.any fun c => c.kind == 1 && c.n == x) := by
  induction cs with
  | nil => intro acc x; simp [varsA_nil]
  | cons c cs ih =>
    intro acc x
    rw [varsA_step]
    split
    · rename_i h
      rw [ih, inI_append, List.any_cons, h.1]
      simp [Bool.or_assoc]
    · rename_i h
      rw [ih, List.any_cons]
      by_cases hk : c.kind = 1
      · have hin : inI acc c.n = true := by
          cases hi : inI acc c.n
          · exact absurd ⟨hk, hi⟩ h
          · rfl
        by_cases hx : c.n = x
        · subst hx; rw [hin]; rfl
        · have : (c.n == x) = false := by simpa using hx
          rw [this, Bool.and_false, Bool.false_or]
      · have : (c.kind == 1) = false := by simpa using hk
        rw [this]; rfl
theorem ground_vars (t : List C) : groundF t = ((varsF t).length == 0) := by
  have h : ∀ (cs : List C) (acc : List Int), ((varsA acc cs).length == 0) = ((acc.length == 0) && !(cs.any fun c => c.kind == 1)) := by
    intro cs
    induction cs with
    | nil => intro acc; simp [varsA_nil]
    | cons c cs ih =>
      intro acc
      rw [varsA_step]
      split
      · rename_i h; rw [ih, List.any_cons, h.1]; simp
      · rename_i h
        rw [ih, List.any_cons]
        by_cases hk : c.kind = 1
        · have hin : inI acc c.n = true := by
            cases hi : inI acc c.n
            · exact absurd ⟨hk, hi⟩ h
            · rfl
          cases acc with
          | nil => simp [inI] at hin
          | cons a l => simp
        · have : (c.kind == 1) = false := by simp [hk]
          rw [this]; simp
  have := h t []
  simp at this
  simp only [groundF, varsF]
  rw [Bool.eq_iff_iff]
  simp [this]
end Go.Proofs.Ytlndjooddkjnoaa
