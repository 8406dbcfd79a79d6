/- What the laws of heaps have in common. -/
import Derived.Test.YtlndjooddkjnoaaHhB
import Derived.Test.YtlndjooddkjnoaaEnd
set_option linter.unusedVariables false
set_option linter.unusedSimpArgs false
namespace Go.Proofs.Ytlndjooddkjnoaa
open Go.RowKit

noncomputable def mayH (l : List C) (tr : List Int) (r : Int) : Bool := (decide (l.length ≤ 120) && decide (tr.length ≤ 120)) && rightH ⟨l, tr, r⟩
theorem may8 {w : World} {A B : Option Addr} {c d : Nat} {r : Int} {l : List C} {tr : List Int} (h : IsC w A l.length c l) (hT : IsI w B tr.length d tr) : Calls Try.prog 31 #[.agg #[.slice A l.length c, .slice B tr.length d, .int .i64 r]] w (RetV w (.bool (mayH l tr r))) := qMay_any A B l.length c tr.length d r l tr w h hT
theorem mayH_iff {l : List C} {tr : List Int} {r : Int} (h : mayH l tr r = true) : l.length ≤ 120 ∧ tr.length ≤ 120 ∧ OkH ⟨l, tr, r⟩ := by
  unfold mayH at h
  simp only [Bool.and_eq_true, decide_eq_true_eq] at h
  exact ⟨h.1.1, h.1.2, rightH_iff.1 h.2⟩
theorem HB.box {w : World} {A B : Option Addr} {n c m d : Nat} {r : Int} {l : List C} {tr : List Int} (h : IsC w A n c l) (hT : IsI w B m d tr) : HB (w.alloc (.cells #[.slice A n c, .slice B m d, .int .i64 r] 25)) w.heap.size l tr r := by
  have e1 := h.len
  have e2 := hT.len
  subst e1 e2
  exact ⟨A, c, B, d, alloc_at rfl, h.below (bas _ _), hT.below (bas _ _)⟩
/-- the cells that putting a term takes -/
def manyF (T : Tm) (a : List Int) : Nat := match T with
  | .f s us => (Tm.f s us).hs
  | .i _ => 1
  | .v x => if atA a x.toNat < 0 then 1 else 0
theorem putA_many (l : List C) (T : Tm) (a : List Int) : (putA l T a).1.length = l.length + manyF T a := by
  cases T with
  | f s us => simp only [putA, manyF, List.length_append, layA_len]
  | i n => simp [putA, manyF]
  | v n => simp only [putA, manyF]; split <;> simp
def cntF : List C → Nat
  | [] => 0
  | c :: l => (if c.kind = 3 then 1 else 0) + cntF l
theorem cntF_append : ∀ a b : List C, cntF (a ++ b) = cntF a + cntF b
  | [], b => by simp [cntF]
  | c :: a, b => by simp only [List.cons_append, cntF, cntF_append a b]; omega
mutual
theorem hs_cnt : ∀ T : Tm, T.hs + 1 = T.size + cntF T.flat ∨ (T.hs = 0 ∧ cntF T.flat = 0 ∧ T.size = 1)
  | .f s us => by
    left
    have := hss_cnt us
    simp only [Tm.hs, Tm.size, Tm.flat, cntF, if_pos]
    omega
  | .i n => .inr ⟨rfl, rfl, rfl⟩
  | .v n => .inr ⟨rfl, rfl, rfl⟩
theorem hss_cnt : ∀ us : List Tm, hss us + us.length = sizes us + cntF (flats us)
  | [] => rfl
  | u :: us => by
    have h1 := hs_cnt u
    have h2 := hss_cnt us
    simp only [hss, sizes, flats_cons, cntF_append, List.length_cons]
    omega
end
theorem cntF_le : ∀ l : List C, cntF l ≤ l.length
  | [] => Nat.le_refl _
  | c :: l => by
    have := cntF_le l
    simp only [cntF, List.length_cons]
    split <;> omega
theorem fitsF_len (n : Nat) (a : List Int) : (fitsF n a).length ≤ 20 := by simp [fitsF]; omega
end Go.Proofs.Ytlndjooddkjnoaa
