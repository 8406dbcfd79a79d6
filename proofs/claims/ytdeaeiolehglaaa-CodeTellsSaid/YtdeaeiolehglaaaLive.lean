/- The live questions of layer 10, in plain words. No program in sight. -/
import Derived.Test.YtdeaeiolehglaaaSrcS
import Derived.Test.YtdeaeiolehglaaaRegs
set_option linter.unusedVariables false
set_option linter.unusedSimpArgs false
namespace Go.Proofs.Ytdeaeiolehglaaa
open Go.RowKit

mutual
theorem flat_inj : ∀ (a b : Tm) (r r' : List C), a.flat ++ r = b.flat ++ r' → a = b ∧ r = r'
  | .v n, .v m, r, r', h => by simp [Tm.flat] at h; exact ⟨by rw [h.1], h.2⟩
  | .v n, .i m, r, r', h => by simp [Tm.flat] at h
  | .v n, .f s us, r, r', h => by simp [Tm.flat] at h
  | .i n, .v m, r, r', h => by simp [Tm.flat] at h
  | .i n, .i m, r, r', h => by simp [Tm.flat] at h; exact ⟨by rw [h.1], h.2⟩
  | .i n, .f s us, r, r', h => by simp [Tm.flat] at h
  | .f s us, .v m, r, r', h => by simp [Tm.flat] at h
  | .f s us, .i m, r, r', h => by simp [Tm.flat] at h
  | .f s us, .f s' us', r, r', h => by
    simp only [Tm.flat, List.cons_append, List.cons.injEq, C.mk.injEq, true_and] at h
    obtain ⟨⟨h1, h2⟩, h3⟩ := h
    obtain ⟨h4, h5⟩ := flats_inj us us' r r' (by omega) h3
    exact ⟨by rw [h1, h4], h5⟩
theorem flats_inj : ∀ (as_ bs : List Tm) (r r' : List C), as_.length = bs.length → flats as_ ++ r = flats bs ++ r' → as_ = bs ∧ r = r'
  | [], [], r, r', _, h => ⟨rfl, by simpa [flats] using h⟩
  | a :: as_, b :: bs, r, r', hl, h => by
    rw [flats_cons, flats_cons, List.append_assoc, List.append_assoc] at h
    obtain ⟨h1, h2⟩ := flat_inj a b _ _ h
    obtain ⟨h3, h4⟩ := flats_inj as_ bs r r' (by simpa using hl) h2
    exact ⟨by rw [h1, h3], h4⟩
  | [], b :: bs, r, r', hl, _ => by simp at hl
  | a :: as_, [], r, r', hl, _ => by simp at hl
end
theorem tm_inj {a b : Tm} (h : a.flat = b.flat) : a = b := (flat_inj a b [] [] (by simpa using h)).1
theorem lits_inj : ∀ (a b : List Ltl), a.map (fun l => (l.neg, l.t.flat)) = b.map (fun l => (l.neg, l.t.flat)) → a = b
  | [], [], _ => rfl
  | x :: a, y :: b, h => by
    simp only [List.map_cons, List.cons.injEq, Prod.mk.injEq] at h
    obtain ⟨⟨h1, h2⟩, h3⟩ := h
    have := tm_inj h2
    obtain ⟨n, t⟩ := x
    obtain ⟨n', t'⟩ := y
    simp only at h1 this
    rw [h1, this, lits_inj a b h3]
  | [], y :: b, h => by simp at h
  | x :: a, [], h => by simp at h
theorem IsCls.inj {c c' : Cls} {r : Raw} (h : IsCls c r) (h' : IsCls c' r) : c = c' := by
  obtain ⟨hd, bd⟩ := c
  obtain ⟨hd', bd'⟩ := c'
  have h1 := tm_inj (h.head.trans h'.head.symm)
  have h2 := lits_inj _ _ (h.body.trans h'.body.symm)
  simp only at h1 h2
  rw [h1, h2]
def nP : ByteArray := ⟨#[112]⟩
def nF : ByteArray := ⟨#[102]⟩
def nQ : ByteArray := ⟨#[113]⟩
def nG : ByteArray := ⟨#[103]⟩
def clsA : Cls := ⟨.f nP [.v 7, .f nF [.v 7]], []⟩
def clsA0 : Cls := ⟨.f nP [.v 0, .f nF [.v 0]], []⟩
def clsA1 : Cls := ⟨.f nP [.v 0, .f nF [.v 1]], []⟩
def clsB : Cls := ⟨.f nP [], [⟨true, .f nQ [.f nG [.i 1]]⟩]⟩
def want : List In := [{ op := 1, x := 2 }, { op := 4, a := 1, name := nF, n := 1 }, { op := 6, x := 2 }, { op := 13, name := nP, n := 2 }]
def want1 : List In := [{ op := 4, a := 1, name := nF, n := 1 }, { op := 6, x := 2 }, { op := 13, name := nP, n := 2 }]
def wmore : List In := [{ op := 8, name := nG, n := 1 }, { op := 11, n := 1 }, { op := 8, a := 1, name := nQ, n := 1 }, { op := 10 }, { op := 12, a := 1, neg := true }, { op := 13, name := nP }]
def lastW : In := { op := 13, name := nP, n := 2 }
def cellsF : List C := [⟨3, nP, 2⟩, ⟨1, ⟨#[]⟩, 7⟩, ⟨3, nF, 1⟩, ⟨1, ⟨#[]⟩, 7⟩]
def cellsQ : List C := [⟨3, nQ, 1⟩, ⟨3, nG, 1⟩, ⟨2, ⟨#[]⟩, 1⟩]
def cellsP : List C := [⟨3, nP, 0⟩]
def cellsA0 : List C := [⟨3, nP, 2⟩, ⟨1, ⟨#[]⟩, 0⟩, ⟨3, nF, 1⟩, ⟨1, ⟨#[]⟩, 0⟩]
def cellsA1 : List C := [⟨3, nP, 2⟩, ⟨1, ⟨#[]⟩, 0⟩, ⟨3, nF, 1⟩, ⟨1, ⟨#[]⟩, 1⟩]
theorem codeA : compF clsA = want := by kernel_rfl
theorem codeA0 : compF clsA0 = want := by kernel_rfl
theorem codeA1 : compF clsA1 ≠ want1 := by
  have h : compF clsA1 = [{ op := 1, x := 2, a := 0 }, { op := 4, a := 1, name := nF, n := 1 }, { op := 5, x := 3 }, { op := 13, name := nP, n := 2 }] := by kernel_rfl
  rw [h]
  intro he
  have := congrArg List.length he
  simp [want1] at this
theorem codeB : compF clsB = wmore := by kernel_rfl
theorem candA : candF want lastW = (cellsA0, []) := by kernel_rfl
theorem candA1 : candF want1 lastW = (cellsA1, []) := by kernel_rfl
theorem regsA : regsF 0 want = 3 := by kernel_rfl
theorem regsB : regsF 0 wmore = 2 := by kernel_rfl
theorem isA : IsCls clsA (cellsF, []) := ⟨by kernel_rfl, ⟨by kernel_rfl, by decide, by kernel_rfl⟩, rfl, by simp [clsA], by simp [clsA]⟩
theorem isA0 : IsCls clsA0 (cellsA0, []) := ⟨by kernel_rfl, ⟨by kernel_rfl, by decide, by kernel_rfl⟩, rfl, by simp [clsA0], by simp [clsA0]⟩
theorem isA1 : IsCls clsA1 (cellsA1, []) := ⟨by kernel_rfl, ⟨by kernel_rfl, by decide, by kernel_rfl⟩, rfl, by simp [clsA1], by simp [clsA1]⟩
theorem isB : IsCls clsB (cellsP, [(true, cellsQ)]) := ⟨by kernel_rfl, ⟨by kernel_rfl, by decide, by kernel_rfl⟩, by kernel_rfl, by
  intro l hl
  simp [clsB] at hl
  subst hl
  exact ⟨by kernel_rfl, by decide, by kernel_rfl⟩, by simp [clsB]⟩
theorem mayA : mayB (cellsF, []) = true := by kernel_rfl
theorem mayB' : mayB (cellsP, [(true, cellsQ)]) = true := by kernel_rfl
theorem mayN : mayB ([], []) = false := by kernel_rfl
theorem okA : okRegs want := by
  intro i hi
  simp [want] at hi
  rcases hi with rfl | rfl | rfl | rfl <;> simp
theorem okB : okRegs wmore := by
  intro i hi
  simp [wmore] at hi
  rcases hi with rfl | rfl | rfl | rfl | rfl | rfl <;> simp
end Go.Proofs.Ytdeaeiolehglaaa
