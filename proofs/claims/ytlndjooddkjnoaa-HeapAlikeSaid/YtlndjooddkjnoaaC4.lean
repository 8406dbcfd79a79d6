/- Texts of this proof that belong together: words of memory, plain laws, short walks. -/
import Derived.Test.YtlndjooddkjnoaaHhB
import Derived.Test.YtlndjooddkjnoaaEnd
import Derived.Test.YtlndjooddkjnoaaHpH
set_option linter.unusedVariables false
set_option linter.unusedSimpArgs false
/- What the laws of heaps have in common. -/
namespace Go.Proofs.Ytlndjooddkjnoaa
open Go.RowKit

noncomputable def mayH (l : List C) (tr : List Int) (r : Int) : Bool := (decide (l.length ≤ 120) && decide (tr.length ≤ 120)) && rightH ⟨l, tr, r⟩
theorem may8 {w : World} {A B : Option Addr} {c d : Nat} {r : Int} {l : List C} {tr : List Int} (h : IsC w A l.length c l) (hT : IsI w B tr.length d tr) : Calls Try.prog 31 #[.agg #[.slice A l.length c, .slice B tr.length d, .int .i64 r]] w (RetV w (.bool (mayH l tr r))) := qMay_any A B l.length c tr.length d r l tr w h hT
theorem mayH_iff {l : List C} {tr : List Int} {r : Int} (h : mayH l tr r = true) : l.length ≤ 120 ∧ tr.length ≤ 120 ∧ OkH ⟨l, tr, r⟩ := by
  unfold mayH at h
  simp only [Bool.and_eq_true, decide_eq_true_eq] at h
  exact ⟨h.1.1, h.1.2, rightH_iff.1 h.2⟩
theorem HB.box {w : World} {A B : Option Addr} {n c m d : Nat} {r : Int} {l : List C} {tr : List Int} (h : IsC w A n c l) (hT : IsI w B m d tr) : HB (w.alloc (.cells #[.slice A n c, .slice B m d, .int .i64 r] 25)) w.heap.size l tr r := by
  have e1 := h.len
  have e2 := hT.len
  subst e1 e2
  exact ⟨A, c, B, d, alloc_at rfl, h.below (bas _ _), hT.below (bas _ _)⟩
/-- the cells that putting a term takes -/
def manyF (T : Tm) (a : List Int) : Nat := match T with
  | .f s us => (Tm.f s us).hs
  | .i _ => 1
  | .v x => if atA a x.toNat < 0 then 1 else 0
theorem putA_many (l : List C) (T : Tm) (a : List Int) : (putA l T a).1.length = l.length + manyF T a := by
  cases T with
  | f s us => simp only [putA, manyF, List.length_append, layA_len]
  | i n => simp [putA, manyF]
  | v n => simp only [putA, manyF]; split <;> simp
def cntF : List C → Nat
  | [] => 0
  | c :: l => (if c.kind = 3 then 1 else 0) + cntF l
theorem cntF_append : ∀ a b : List C, cntF (a ++ b) = cntF a + cntF b
  | [], b => by simp [cntF]
  | c :: a, b => by simp only [List.cons_append, cntF, cntF_append a b]; omega
mutual
theorem hs_cnt : ∀ T : Tm, T.hs + 1 = T.size + cntF T.flat ∨ (T.hs = 0 ∧ cntF T.flat = 0 ∧ T.size = 1)
  | .f s us => by
    left
    have := hss_cnt us
    simp only [Tm.hs, Tm.size, Tm.flat, cntF, if_pos]
    omega
  | .i n => .inr ⟨rfl, rfl, rfl⟩
  | .v n => .inr ⟨rfl, rfl, rfl⟩
theorem hss_cnt : ∀ us : List Tm, hss us + us.length = sizes us + cntF (flats us)
  | [] => rfl
  | u :: us => by
    have h1 := hs_cnt u
    have h2 := hss_cnt us
    simp only [hss, sizes, flats_cons, cntF_append, List.length_cons]
    omega
end
theorem cntF_le : ∀ l : List C, cntF l ≤ l.length
  | [] => Nat.le_refl _
  | c :: l => by
    have := cntF_le l
    simp only [cntF, List.length_cons]
    split <;> omega
theorem fitsF_len (n : Nat) (a : List Int) : (fitsF n a).length ≤ 20 := by simp [fitsF]; omega
end Go.Proofs.Ytlndjooddkjnoaa

/- The calls that the laws of heaps make, with what comes of them. -/
namespace Go.Proofs.Ytlndjooddkjnoaa
open Go.RowKit

section
variable {w : World} {A B D At : Option Addr} {c d e kc : Nat} {r x y : Int} {l : List C} {tr a : List Int}
theorem OkH.tr_len {l : List C} {tr : List Int} {r : Int} (h : OkH ⟨l, tr, r⟩) : l.length ≤ 4096 ∧ tr.length ≤ 4096 := by
  have h1 := h.tr.len
  have h2 := h.fit
  have h3 := h.room2
  simp only at h1 h2 h3
  omega
theorem uni8 (h : IsC w A l.length c l) (hT : IsI w B tr.length d tr) (ho : OkH ⟨l, tr, r⟩) (x y : Int) :
    Calls Try.prog 23 #[.agg #[.slice A l.length c, .slice B tr.length d, .int .i64 r], .int .i64 x, .int .i64 y] w (fun e w' => ∃ A' c' B' d', e = .returned (.tuple #[.agg #[.slice A' (uRes l tr x y).1.length c', .slice B' (uRes l tr x y).2.length d', .int .i64 r], .bool (uniZ l tr x y).isSome]) ∧ IsC w' A' (uRes l tr x y).1.length c' (uRes l tr x y).1 ∧ IsI w' B' (uRes l tr x y).2.length d' (uRes l tr x y).2 ∧ Below w.heap.size w w' ∧ ((∀ z, B' = some z → w.heap.size ≤ z.block) ∨ (B' = B ∧ (uRes l tr x y).2 = tr))) := by
  obtain ⟨h1, h2⟩ := ho.tr_len
  refine (hUnify_any A B l.length c tr.length d r l tr x y w h hT ho.good ho.tr (by omega) (by omega)).mono fun e w' hh => ?_
  unfold RetUni at hh
  obtain ⟨hb, hh⟩ := hh
  unfold uRes
  cases hu : uniZ l tr x y with
  | none =>
    rw [hu] at hh
    exact ⟨A, c, B, d, hh, h.below hb, hT.below hb, hb, .inr ⟨rfl, rfl⟩⟩
  | some u =>
    rw [hu] at hh
    obtain ⟨A', n', c', B', m', d', e1, e2, e3, e4⟩ := hh
    have f1 := e2.len
    have f2 := e3.len
    subst f1 f2
    exact ⟨A', c', B', d', e1, e2, e3, hb, .inl e4⟩
/-- what putting makes of the slots, or leaves of them -/
def pRes (l : List C) (T : Tm) (a : List Int) (r : Int) : List C := if ((putA l T a).1.length : Int) ≤ r then (putA l T a).1 else l
theorem put8 {T : Tm} {n k : Nat} (h : IsC w A l.length c l) (ht : IsC w At k kc T.flat) (hD : IsI w D n e a) (ho : OkH ⟨l, tr, r⟩) (hT : T.ok = true) (hs : T.size ≤ 200) (ha : a.length ≤ 1000) :
    Calls Try.prog 19 #[.agg #[.slice A l.length c, .slice B tr.length d, .int .i64 r], .slice At k kc, .slice D n e] w (fun e w' => ∃ A' c' D' n' d' q x, e = .returned (.tuple #[.agg #[.slice A' (pRes l T a r).length c', .slice B tr.length d, .int .i64 r], .int .i64 q, .slice D' n' d', .int .i64 x]) ∧ IsC w' A' (pRes l T a r).length c' (pRes l T a r) ∧ Below w.heap.size w w' ∧
      ((((putA l T a).1.length : Int) ≤ r ∧ x = 0 ∧ q = ((putA l T a).2.1 : Nat) ∧ IsI w' D' n' d' (putA l T a).2.2 ∧ (n' ≠ 0 → ∀ a, D' = some a → w.heap.size ≤ a.block)) ∨ (¬ ((putA l T a).1.length : Int) ≤ r ∧ x = 80 ∧ q = 0 ∧ D' = none ∧ n' = 0 ∧ d' = 0))) := by
  obtain ⟨h1, h2⟩ := ho.tr_len
  have hal := hD.len
  refine (hPut_any T A B D At l.length c tr.length d n e k kc r l a w h ht hD hT hs (by omega) (by omega)).mono fun e w' hh => ?_
  unfold RetPut at hh
  unfold pRes
  by_cases hf : ((putA l T a).1.length : Int) ≤ r
  · rw [if_pos hf] at hh ⊢
    obtain ⟨A', n', c', D', k', d', e1, e2, e3, e4, e5⟩ := hh
    have f1 := e2.len
    subst f1
    exact ⟨A', c', D', k', d', _, _, e1, e2, e4, .inl ⟨hf, rfl, rfl, e3, e5⟩⟩
  · rw [if_neg hf] at hh ⊢
    exact ⟨A, c, _, _, _, _, _, hh.1, h.below hh.2, hh.2, .inr ⟨hf, rfl, rfl, rfl, rfl, rfl⟩⟩
theorem pRes_ok {T : Tm} (ho : OkH ⟨l, tr, r⟩) (hT : T.ok = true) (ha : AtL l.length a) : OkH ⟨pRes l T a r, tr, r⟩ ∧ ∃ d, Hst l tr (pRes l T a r) tr d := by
  unfold pRes
  split
  · rename_i hf
    obtain ⟨h1, h2, _⟩ := put_okH ho hT ha hf
    exact ⟨h1, _, Hst.pre h2 tr⟩
  · exact ⟨ho, _, Hst.refl _ _⟩
theorem mark8 {n : Nat} (ho : OkH ⟨l, tr, r⟩) : Calls Try.prog 25 #[.agg #[.slice A l.length c, .slice B tr.length d, .int .i64 r], .slice D n e] w (RetV w (.agg #[.int .i64 l.length, .int .i64 tr.length, .slice D n e])) := by
  obtain ⟨h1, h2⟩ := ho.tr_len
  exact hMark_any A B D l.length c tr.length d n e r w (by omega) (by omega)
theorem undo8 {R : Option Addr} {k : Nat} {L : List C} {TR ds : List Int} (h : IsC w A L.length c L) (hT : IsI w B TR.length d TR) (ho : OkH ⟨L, TR, r⟩) (hh : Hst l tr L TR ds) :
    Calls Try.prog 29 #[.agg #[.slice A L.length c, .slice B TR.length d, .int .i64 r], .agg #[.int .i64 l.length, .int .i64 tr.length, .slice R k kc]] w (fun e w' => ∃ A' c' B' d', e = .returned (.agg #[.slice A' l.length c', .slice B' tr.length d', .int .i64 r]) ∧ IsC w' A' l.length c' l ∧ IsI w' B' tr.length d' tr ∧ Below w.heap.size w w') := by
  obtain ⟨h1, h2⟩ := ho.tr_len
  refine (hUndo_any A B R L.length c TR.length d l.length tr.length k kc r L TR w h hT (by omega) (by omega) hh.le hh.room hh.drops).mono fun e w' hr => ?_
  obtain ⟨A', n', c', B', m', d', e1, e2, e3, e4⟩ := hr
  obtain ⟨u1, u2⟩ := hh.undo
  simp only [u1, u2] at e2 e3
  have f1 := e2.len
  have f2 := e3.len
  subst f1 f2
  exact ⟨A', c', B', d', e1, e2, e3, e4⟩
theorem same8 {A' B' : Option Addr} {c' d' : Nat} {r' : Int} {L : List C} {TR : List Int} (h : IsC w A l.length c l) (hT : IsI w B tr.length d tr) (h' : IsC w A' L.length c' L) (hT' : IsI w B' TR.length d' TR) (h1 : l.length ≤ 5000) (h2 : tr.length ≤ 5000) (h3 : L.length ≤ 5000) (h4 : TR.length ≤ 5000) :
    Calls Try.prog 14 #[.agg #[.slice A l.length c, .slice B tr.length d, .int .i64 r], .agg #[.slice A' L.length c', .slice B' TR.length d', .int .i64 r']] w (RetV w (.bool (sameH ⟨l, tr, r⟩ ⟨L, TR, r'⟩))) := qSame_any A B A' B' l.length c tr.length d L.length c' TR.length d' r r' l L tr TR w h hT h' hT' (by omega) (by omega) (by omega) (by omega)
theorem sames8 {A' B' : Option Addr} {c' d' : Nat} (ho : OkH ⟨l, tr, r⟩) (h : IsC w A l.length c l) (hT : IsI w B tr.length d tr) (h' : IsC w A' l.length c' l) (hT' : IsI w B' tr.length d' tr) :
    Calls Try.prog 14 #[.agg #[.slice A l.length c, .slice B tr.length d, .int .i64 r], .agg #[.slice A' l.length c', .slice B' tr.length d', .int .i64 r]] w (RetV w (.bool true)) := by
  obtain ⟨h1, h2⟩ := ho.tr_len
  have := same8 (r := r) (r' := r) h hT h' hT' (by omega) (by omega) (by omega) (by omega)
  rw [(sameH_iff ⟨l, tr, r⟩ ⟨l, tr, r⟩).2 rfl] at this
  exact this
end
/-- a mark that stands in a block of its own -/
def MB (w : World) (g n m : Nat) : Prop := w.heap[g]? = some (.cells #[.int .i64 n, .int .i64 m, .slice none 0 0] 43 (0, 0))
theorem MB.below {w w' : World} {g n m : Nat} (h : MB w g n m) (hb : Below w.heap.size w w') : MB w' g n m := (hb.block g (block_lt h)).trans h
theorem MB.open {w : World} {g n m : Nat} (h : MB w g n m) : ∀ w', Below w.heap.size w w' → (w'.cell? ⟨g, 0, none⟩ = some (.int .i64 n) ∧ w'.cell? ⟨g, 1, none⟩ = some (.int .i64 m) ∧ w'.cell? ⟨g, 2, none⟩ = some (.slice none 0 0) ∧ g < w'.heap.size) := fun w' hb => open3 (h.below hb)
/-- an act that stands in a block of its own -/
def OB (w : World) (g : Nat) (t : List C) (a b : Int) : Prop := ∃ A c, w.heap[g]? = some (.cells #[.slice A t.length c, .int .i64 a, .int .i64 b] 28 (0, 0)) ∧ IsC w A t.length c t
theorem OB.below {w w' : World} {g : Nat} {t : List C} {a b : Int} (h : OB w g t a b) (hb : Below w.heap.size w w') : OB w' g t a b := by
  obtain ⟨A, c, h1, h2⟩ := h
  exact ⟨A, c, (hb.block g (block_lt h1)).trans h1, h2.below hb⟩
theorem OB.open {w : World} {g : Nat} {t : List C} {a b : Int} (h : OB w g t a b) : ∃ A c, IsC w A t.length c t ∧ ∀ w', Below w.heap.size w w' → (w'.cell? ⟨g, 0, none⟩ = some (.slice A t.length c) ∧ w'.cell? ⟨g, 1, none⟩ = some (.int .i64 a) ∧ w'.cell? ⟨g, 2, none⟩ = some (.int .i64 b) ∧ g < w'.heap.size) := by
  obtain ⟨A, c, h1, h2⟩ := h
  exact ⟨A, c, h2, fun w' hb => open3 ((hb.block g (block_lt h1)).trans h1)⟩
theorem OB.box {w : World} {A : Option Addr} {n c : Nat} {t : List C} {a b : Int} (h : IsC w A n c t) : OB (w.alloc (.cells #[.slice A n c, .int .i64 a, .int .i64 b] 28)) w.heap.size t a b := by
  have e1 := h.len
  subst e1
  exact ⟨A, c, alloc_at rfl, h.below (bas _ _)⟩
/-! ### a heap's block that is written anew -/
/-- the block of a heap of that room -/
def RB (w : World) (g : Nat) (r : Int) : Prop := ∃ A n c B m d, w.heap[g]? = some (.cells #[.slice A n c, .slice B m d, .int .i64 r] 25 (0, 0))
theorem HB.rb {w : World} {g : Nat} {l : List C} {tr : List Int} {r : Int} (h : HB w g l tr r) : RB w g r := by
  obtain ⟨A, c, B, d, h1, _⟩ := h
  exact ⟨A, _, c, B, _, d, h1⟩
theorem IsC.empty {w w' : World} {A : Option Addr} {c : Nat} (h : IsC w A 0 c []) : IsC w' A 0 c [] := ⟨⟨rfl, h.sl.hcap, h.sl.hmax, fun h => absurd h (by omega)⟩, by simp⟩
theorem IsC.kq8 {w w' : World} {A : Option Addr} {n c g : Nat} {l : List C} {r : Int} (h : IsC w A n c l) (hk : Kq g w w') (hr : RB w g r) : IsC w' A n c l := by
  obtain ⟨A1, n1, c1, B1, m1, d1, hx⟩ := hr
  cases l with
  | nil =>
    have := h.len
    subst this
    exact h.empty
  | cons a l => exact h.kq hk (h.off_heap (by simp) hx)
theorem IsI.kq8 {w w' : World} {A : Option Addr} {n c g : Nat} {l : List C} {tr : List Int} {r : Int} (h : IsI w A n c tr) (ok : OkH ⟨l, tr, r⟩) (hk : Kq g w w') (hr : RB w g r) : IsI w' A n c tr := by
  obtain ⟨A1, n1, c1, B1, m1, d1, hx⟩ := hr
  cases tr with
  | nil =>
    have := h.len
    subst this
    exact isI_nil_any h
  | cons a tr =>
    refine h.kq hk (h.off_heap ?_ hx)
    obtain ⟨p, hp, h1, _⟩ := ok.tr.at_ a (by simp)
    have h2 := ok.fit
    simp only at h1 h2
    omega
theorem HB.kq {w w' : World} {g g0 : Nat} {l : List C} {tr : List Int} {r : Int} (h : HB w g0 l tr r) (ok : OkH ⟨l, tr, r⟩) (hk : Kq g w w') (hr : RB w g r) (hne : g0 ≠ g) : HB w' g0 l tr r := by
  obtain ⟨A, c, B, d, h1, h2, h3⟩ := h
  exact ⟨A, c, B, d, (hk.old _ (block_lt h1) hne).trans h1, h2.kq8 hk hr, h3.kq8 ok hk hr⟩
theorem OB.kq {w w' : World} {g g0 : Nat} {t : List C} {a b r : Int} (h : OB w g0 t a b) (hk : Kq g w w') (hr : RB w g r) (hne : g0 ≠ g) : OB w' g0 t a b := by
  obtain ⟨A, c, h1, h2⟩ := h
  exact ⟨A, c, (hk.old _ (block_lt h1) hne).trans h1, h2.kq8 hk hr⟩
theorem MB.kq {w w' : World} {g g0 n m : Nat} (h : MB w g0 n m) (hk : Kq g w w') (hne : g0 ≠ g) : MB w' g0 n m := (hk.old _ (block_lt h) hne).trans h
/-- a heap is stored into a heap's block -/
theorem HB.store {w : World} {g : Nat} {A B : Option Addr} {c d : Nat} {l : List C} {tr : List Int} {r : Int} (hr : RB w g r) (hC : IsC w A l.length c l) (hN : IsI w B tr.length d tr) (ok : OkH ⟨l, tr, r⟩) :
    HB (((w.setCell ⟨g, 0, none⟩ (.slice A l.length c)).setCell ⟨g, 1, none⟩ (.slice B tr.length d)).setCell ⟨g, 2, none⟩ (.int .i64 r)) g l tr r ∧ Kq g w (((w.setCell ⟨g, 0, none⟩ (.slice A l.length c)).setCell ⟨g, 1, none⟩ (.slice B tr.length d)).setCell ⟨g, 2, none⟩ (.int .i64 r)) := by
  have hkF : Kq g w (((w.setCell ⟨g, 0, none⟩ (.slice A l.length c)).setCell ⟨g, 1, none⟩ (.slice B tr.length d)).setCell ⟨g, 2, none⟩ (.int .i64 r)) := ((Kq.set w 0 _).trans (Kq.set _ 1 _)).trans (Kq.set _ 2 _)
  refine ⟨⟨A, c, B, d, ?_, hC.kq8 hkF hr, hN.kq8 ok hkF hr⟩, hkF⟩
  obtain ⟨A1, n1, c1, B1, m1, d1, hx⟩ := hr
  have h1 := set_block (k := 0) hx (.slice A l.length c)
  have h2 := set_block (k := 1) h1 (.slice B tr.length d)
  have h3 := set_block (k := 2) h2 (.int .i64 r)
  simpa using h3
theorem RB.open {w : World} {g : Nat} {r : Int} (h : RB w g r) : ∃ v0 v1, w.cell? ⟨g, 0, none⟩ = some v0 ∧ w.cell? ⟨g, 1, none⟩ = some v1 ∧ w.cell? ⟨g, 2, none⟩ = some (.int .i64 r) ∧ g < w.heap.size ∧ w.frozen? ⟨g, 0, none⟩ = false ∧ w.frozen? ⟨g, 1, none⟩ = false ∧ w.frozen? ⟨g, 2, none⟩ = false := by
  obtain ⟨A, n, c, B, m, d, h⟩ := h
  obtain ⟨h0, h1, h2, h3⟩ := open3 h
  exact ⟨_, _, h0, h1, h2, h3, frozen_of h 0, frozen_of h 1, frozen_of h 2⟩
theorem RB.below {w w' : World} {g : Nat} {r : Int} (h : RB w g r) (hb : Below w.heap.size w w') : RB w' g r := by
  obtain ⟨A, n, c, B, m, d, h⟩ := h
  exact ⟨A, n, c, B, m, d, (hb.block g (block_lt h)).trans h⟩
theorem HB.lt {w : World} {g : Nat} {l : List C} {tr : List Int} {r : Int} (h : HB w g l tr r) : g < w.heap.size := by
  obtain ⟨A, c, B, d, h1, _⟩ := h
  exact block_lt h1
theorem MB.lt {w : World} {g n m : Nat} (h : MB w g n m) : g < w.heap.size := block_lt h
theorem OB.lt {w : World} {g : Nat} {t : List C} {a b : Int} (h : OB w g t a b) : g < w.heap.size := by
  obtain ⟨A, c, h1, _⟩ := h
  exact block_lt h1
end Go.Proofs.Ytlndjooddkjnoaa
