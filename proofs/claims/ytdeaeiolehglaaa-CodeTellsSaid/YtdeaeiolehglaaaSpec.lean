/- What the functions of layer 1 compute, in plain words over lists of cells. No program in sight. -/
import Derived.Test.YtdeaeiolehglaaaTerm
set_option linter.unusedVariables false
set_option linter.unusedSimpArgs false
namespace Go.Proofs.Ytdeaeiolehglaaa
open Go.RowKit

theorem beq_iff (a b : C) : a.beq b = true ↔ a = b := by
  obtain ⟨k, s, n⟩ := a
  obtain ⟨k', s', n'⟩ := b
  simp only [C.beq, Bool.and_eq_true, beq_iff_eq, C.mk.injEq]
  constructor
  · rintro ⟨h1, h2, h3⟩
    refine ⟨h1, ?_, h3⟩
    have := beq_toListBytes s s'
    rw [ByteArray.toList_eq, ByteArray.toList_eq] at h2
    obtain ⟨⟨x⟩⟩ := s
    obtain ⟨⟨y⟩⟩ := s'
    simp at h2
    rw [h2]
  · rintro ⟨rfl, rfl, rfl⟩
    exact ⟨rfl, rfl, rfl⟩
theorem beq_no (a b : C) : a.beq b = false ↔ a ≠ b := by
  rw [← Bool.not_eq_true, beq_iff]

def sameC : List C → List C → Bool
  | [], [] => true
  | a :: as, b :: bs => a.beq b && sameC as bs
  | _, _ => false
theorem sameC_iff : ∀ a b : List C, sameC a b = true ↔ a = b
  | [], [] => by simp [sameC]
  | [], b :: bs => by simp [sameC]
  | a :: as, [] => by simp [sameC]
  | a :: as, b :: bs => by simp [sameC, beq_iff, sameC_iff as bs]
theorem sameC_len {a b : List C} (h : a.length ≠ b.length) : sameC a b = false := by
  rw [← Bool.not_eq_true, sameC_iff]
  rintro rfl
  exact h rfl
def sameI : List Int → List Int → Bool
  | [], [] => true
  | a :: as, b :: bs => a == b && sameI as bs
  | _, _ => false
theorem sameI_iff : ∀ a b : List Int, sameI a b = true ↔ a = b
  | [], [] => by simp [sameI]
  | [], b :: bs => by simp [sameI]
  | a :: as, [] => by simp [sameI]
  | a :: as, b :: bs => by simp [sameI, sameI_iff as bs]
theorem sameI_len {a b : List Int} (h : a.length ≠ b.length) : sameI a b = false := by
  rw [← Bool.not_eq_true, sameI_iff]
  rintro rfl
  exact h rfl
def sameCC : List (List C) → List (List C) → Bool
  | [], [] => true
  | a :: as, b :: bs => sameC a b && sameCC as bs
  | _, _ => false
theorem sameCC_iff : ∀ a b : List (List C), sameCC a b = true ↔ a = b
  | [], [] => by simp [sameCC]
  | [], b :: bs => by simp [sameCC]
  | a :: as, [] => by simp [sameCC]
  | a :: as, b :: bs => by simp [sameCC, sameC_iff, sameCC_iff as bs]
theorem sameCC_len {a b : List (List C)} (h : a.length ≠ b.length) : sameCC a b = false := by
  rw [← Bool.not_eq_true, sameCC_iff]
  rintro rfl
  exact h rfl

theorem drop_get {α : Type} {l : List α} {k : Nat} {x : α} (h : l[k]? = some x) : l.drop k = x :: l.drop (k + 1) := by
  obtain ⟨hl, he⟩ := List.getElem?_eq_some_iff.1 h
  rw [List.drop_eq_getElem_cons hl, he]
theorem drop_end {α : Type} {l : List α} {k n : Nat} (h : l.length = n) (hk : ¬ k < n) : l.drop k = [] := List.drop_of_length_le (by omega)

def inI (ns : List Int) (x : Int) : Bool := ns.any fun y => y == x
theorem inI_iff (ns : List Int) (x : Int) : inI ns x = true ↔ x ∈ ns := by simp [inI]
def placeI (ns : List Int) (x : Int) : Int := idxF (fun y => y == x) 0 ns

/-- passing over terms: 'skip cs k': what stands behind the first k terms, if they are there -/
def C.ar (c : C) : Nat := if c.kind = 3 then c.n.toNat else 0
def skip : List C → Nat → Option (List C)
  | cs, 0 => some cs
  | [], _ + 1 => none
  | c :: cs, k + 1 => if c.ok then skip cs (k + c.ar) else none
def endN (t : List C) (at_ : Nat) : Option Nat := (skip (t.drop at_) 1).map fun r => t.length - r.length
def endR (t : List C) (at_ : Nat) : Int := match endN t at_ with | some e => e | none => -1
def endT (t : List C) (at_ : Nat) : Int := match endN t at_ with | some e => e | none => 0
def rightB (t : List C) : Bool := (decide (1 ≤ t.length) && decide (t.length ≤ 200)) && (endN t 0 == some t.length)

def varsA : List Int → List C → List Int
  | acc, [] => acc
  | acc, c :: cs => if c.kind = 1 ∧ inI acc c.n = false then varsA (acc ++ [c.n]) cs else varsA acc cs
def varsF (t : List C) : List Int := varsA [] t
def groundF (t : List C) : Bool := !(t.any fun c => c.kind == 1)

def partsA (t : List C) : Nat → Nat → List (List C)   -- how many are left, where
  | 0, _ => []
  | k + 1, at_ => match endN t at_ with
    | some e => (t.drop at_).take (e - at_) :: partsA t k e
    | none => []
def partsF (t : List C) : List (List C) := match t with
  | [] => []
  | c :: _ => if c.kind = 3 then partsA t c.n.toNat 1 else []
def turnF (f : Int → Int) (t : List C) : List C := t.map fun c => if c.kind = 1 then { c with n := f c.n } else c
def shiftF (t : List C) (by_ : Int) : List C := if rightB (turnF (fun n => wrap64 (n + by_)) t) then turnF (fun n => wrap64 (n + by_)) t else []
def numberF (t : List C) : List C := turnF (placeI (varsF t)) t

def cmpI (a b : Int) : Int := if a < b then -1 else if b < a then 1 else 0
def cmpS (a b : ByteArray) : Int := if Op.bytesLess a.toList b.toList then -1 else if a.toList == b.toList then 0 else 1
def cmpC (a b : C) : Int := if cmpI a.kind b.kind ≠ 0 then cmpI a.kind b.kind else if cmpI a.n b.n ≠ 0 then cmpI a.n b.n else cmpS a.name b.name
def compareT : List C → List C → Int
  | [], [] => 0
  | [], _ :: _ => -1
  | _ :: _, [] => 1
  | a :: as, b :: bs => if cmpC a b ≠ 0 then cmpC a b else compareT as bs
def compareR : List C → List C → Int
  | a :: as, b :: bs => if a.beq b then compareR as bs else if a.kind < b.kind ∨ a.kind = b.kind ∧ (a.n < b.n ∨ a.n = b.n ∧ Op.bytesLess a.name.toList b.name.toList = true) then -1 else 1
  | _, _ => 0
def makeF (name : ByteArray) (l : List (List C)) : List C :=
  if l.all rightB && rightB (⟨3, name, l.length⟩ :: l.flatten) then ⟨3, name, l.length⟩ :: l.flatten else []
end Go.Proofs.Ytdeaeiolehglaaa
