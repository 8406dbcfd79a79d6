/- Terms as rows of cells, in plain words: which cells and names may be, and how a term is passed over. No program in sight. -/
import Derived.Test.YtdeaeiolehglaaaVoc
set_option linter.unusedVariables false
set_option linter.unusedSimpArgs false
namespace Go.Proofs.Ytdeaeiolehglaaa
open Go.RowKit

def oddB (b : UInt8) : Bool := decide (b.toNat < 32) || (decide (126 < b.toNat) || b.toNat == 39)
def okName (s : ByteArray) : Bool := !(s.data.toList.any oddB) && (decide (1 ≤ s.size) && decide (s.size ≤ 12))
def C.ok (c : C) : Bool :=
  if c.kind = 1 then decide (c.name.toList = []) && (decide (0 ≤ c.n) && decide (c.n ≤ 999))
  else if c.kind = 2 then decide (c.name.toList = []) && (decide (-2147483647 ≤ c.n) && decide (c.n ≤ 2147483647))
  else if c.kind = 3 then okName c.name && (decide (0 ≤ c.n) && decide (c.n ≤ 6))
  else false
def oddR (r : Int) : Bool := decide (r < 32) || (decide (126 < r) || r == 39)

theorem oddB_yes {b : UInt8} (h : (b.toNat : Int) < 32 ∨ 126 < (b.toNat : Int) ∨ (b.toNat : Int) = 39) : oddB b = true := by
  have h' : b.toNat < 32 ∨ 126 < b.toNat ∨ b.toNat = 39 := by omega
  simpa [oddB] using h'
theorem oddB_no {b : UInt8} (h1 : 32 ≤ (b.toNat : Int)) (h2 : (b.toNat : Int) ≤ 126) (h3 : (b.toNat : Int) ≠ 39) : oddB b = false := by
  have h1' : 32 ≤ b.toNat := by omega
  have h2' : b.toNat ≤ 126 := by omega
  have h3' : b.toNat ≠ 39 := by omega
  simp [oddB]; omega

theorem drop_cons (s : ByteArray) (k : Nat) (h : k < s.size) : s.data.toList.drop k = s[k] :: s.data.toList.drop (k + 1) := by
  rw [List.drop_eq_getElem_cons (by simpa using h)]
  rfl
theorem any_drop (p : UInt8 → Bool) (s : ByteArray) (k : Nat) (h : k < s.size) : (s.data.toList.drop k).any p = (p s[k] || (s.data.toList.drop (k + 1)).any p) := by
  rw [drop_cons s k h]; rfl

theorem decode_lt (s : ByteArray) (i : Nat) (hi : i < s.size) (h : s[i].toNat < 128) : Utf8.decode s i = (s[i].toNat, 1) := by
  have hg : s.get! i = s[i] := by simp [ByteArray.get!, getElem!_pos, hi]; rfl
  simp [Utf8.decode, hg, h]
theorem decode_ge (s : ByteArray) (i : Nat) (hi : i < s.size) (h : 128 ≤ s[i].toNat) : 128 ≤ (Utf8.decode s i).1 ∧ (Utf8.decode s i).1 ≤ 2147483647 ∧ 1 ≤ (Utf8.decode s i).2 := by
  have hg : s.get! i = s[i] := by simp [ByteArray.get!, getElem!_pos, hi]; rfl
  have e : ∀ k, (s.get! k).toNat < 256 := fun k => UInt8.toNat_lt _
  have e1 := e (i + 1)
  have e2 := e (i + 2)
  have e3 := e (i + 3)
  have e0 : s[i].toNat < 256 := UInt8.toNat_lt _
  simp only [Utf8.decode, Nat.add_zero, hg, Utf8.runeError]
  repeat' split
  all_goals first | omega | (dsimp only; omega) | (simp; omega) | (simp at *; omega)

/-- the runes of a string: one of them is odd just if one of its bytes is -/
theorem runes_odd (s : ByteArray) : ∀ (bound i : Nat) (acc : Array Value), s.size ≤ bound + i →
    ∃ rs : List Int, (Conv.runesFrom s bound i acc).toList = acc.toList ++ rs.map (Value.int .i32) ∧ (∀ r ∈ rs, -2147483648 ≤ r ∧ r ≤ 2147483647) ∧ rs.length ≤ bound ∧ rs.any oddR = (s.data.toList.drop i).any oddB := by
  intro bound
  induction bound with
  | zero =>
    intro i acc h
    refine ⟨[], by simp [Conv.runesFrom], by simp, by simp, ?_⟩
    rw [List.drop_of_length_le (by simp; omega)]
    rfl
  | succ bound ih =>
    intro i acc h
    by_cases hi : i < s.size
    · unfold Conv.runesFrom
      simp only [hi, if_true]
      by_cases hb : s[i].toNat < 128
      · rw [decode_lt s i hi hb]
        obtain ⟨rs, h1, h2, h3, h4⟩ := ih (i + 1) (acc.push (.int .i32 (Int.ofNat s[i].toNat))) (by omega)
        refine ⟨(s[i].toNat : Int) :: rs, by simpa using h1, ?_, by simpa using h3, ?_⟩
        · intro r hr
          rcases List.mem_cons.1 hr with rfl | hr
          · omega
          · exact h2 r hr
        · rw [any_drop oddB s i hi, List.any_cons, h4]
          congr 1
          simp only [oddR, oddB]
          congr 1
          · exact decide_eq_decide.2 (by omega)
          · congr 1
            · exact decide_eq_decide.2 (by omega)
            · rw [Bool.eq_iff_iff]; simp; omega
      · obtain ⟨g1, g2, g3⟩ := decode_ge s i hi (by omega)
        obtain ⟨rs, h1, h2, h3, h4⟩ := ih (i + (Utf8.decode s i).2) (acc.push (.int .i32 (Int.ofNat (Utf8.decode s i).1))) (by omega)
        refine ⟨((Utf8.decode s i).1 : Int) :: rs, by simpa using h1, ?_, by simpa using h3, ?_⟩
        · intro r hr
          rcases List.mem_cons.1 hr with rfl | hr
          · omega
          · exact h2 r hr
        · rw [any_drop oddB s i hi, List.any_cons, oddB_yes (by omega)]
          have : oddR ((Utf8.decode s i).1 : Int) = true := by
            have : 126 < ((Utf8.decode s i).1 : Int) := by omega
            simp [oddR, this]
          rw [this]; rfl
    · refine ⟨[], by unfold Conv.runesFrom; simp [hi], by simp, by simp, ?_⟩
      rw [List.drop_of_length_le (by simp; omega)]
      rfl

def idxF {α : Type} (p : α → Bool) : Nat → List α → Int
  | _, [] => -1
  | k, x :: l => if p x then k else idxF p (k + 1) l
theorem idxF_any {α : Type} (p : α → Bool) (l : List α) : ∀ k : Nat, decide (0 ≤ idxF p k l) = l.any p := by
  induction l with
  | nil => intro k; simp [idxF]
  | cons x l ih =>
    intro k
    by_cases h : p x
    · simp [idxF, h]
    · simp [idxF, h, ih (k + 1)]
theorem idxF_le {α : Type} (p : α → Bool) (l : List α) : ∀ k : Nat, -1 ≤ idxF p k l ∧ idxF p k l < k + l.length := by
  induction l with
  | nil => intro k; simp [idxF]; omega
  | cons x l ih =>
    intro k
    have := ih (k + 1)
    by_cases h : p x
    · simp [idxF, h]; omega
    · simp [idxF, h]; omega
end Go.Proofs.Ytdeaeiolehglaaa
