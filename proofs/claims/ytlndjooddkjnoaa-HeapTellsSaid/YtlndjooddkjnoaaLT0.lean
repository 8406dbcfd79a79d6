/- The calls of the code and of the document that HeapTells makes, each pair with one and the same word. -/
import Derived.Test.YtlndjooddkjnoaaLH1
import Derived.Test.YtlndjooddkjnoaaB9
import Derived.Test.YtlndjooddkjnoaaHQ5
import Derived.Test.YtlndjooddkjnoaaHQ9
set_option linter.unusedVariables false
set_option linter.unusedSimpArgs false
namespace Go.Proofs.Ytlndjooddkjnoaa
open Go.RowKit

section
variable {w : World} {A B D At : Option Addr} {c d e kc : Nat} {r x y : Int} {l : List C} {tr a : List Int}
/-- where variables stand behind it; the place; the error -/
def pAt (l : List C) (T : Tm) (a : List Int) (r : Int) : List Int := if ((putA l T a).1.length : Int) ≤ r then (putA l T a).2.2 else []
def pPl (l : List C) (T : Tm) (a : List Int) (r : Int) : Int := if ((putA l T a).1.length : Int) ≤ r then ((putA l T a).2.1 : Nat) else 0
def pEr (l : List C) (T : Tm) (a : List Int) (r : Int) : Int := if ((putA l T a).1.length : Int) ≤ r then 0 else 80
def RetP9 (w : World) (B : Option Addr) (d : Nat) (tr : List Int) (r : Int) (L : List C) (pa : List Int) (pq px : Int) (e : Ending) (w' : World) : Prop := ∃ A' c' D' n' d', e = .returned (.tuple #[.agg #[.slice A' L.length c', .slice B tr.length d, .int .i64 r], .int .i64 pq, .slice D' n' d', .int .i64 px]) ∧ IsC w' A' L.length c' L ∧ IsI w' D' n' d' pa ∧ Below w.heap.size w w'
theorem RetPut.nine {T : Tm} {e9 : Ending} {w' : World} (h : IsC w A l.length c l) (hh : RetPut w A B l.length c tr.length d r (putA l T a) e9 w') : RetP9 w B d tr r (pRes l T a r) (pAt l T a r) (pPl l T a r) (pEr l T a r) e9 w' := by
  unfold RetPut at hh
  unfold RetP9 pRes pAt pPl pEr
  by_cases hf : ((putA l T a).1.length : Int) ≤ r
  · rw [if_pos hf] at hh
    simp only [if_pos hf]
    obtain ⟨A', n', c', D', k', d', e1, e2, e3, e4, e5⟩ := hh
    have f1 := e2.len
    subst f1
    exact ⟨A', c', D', k', d', e1, e2, e3, e4⟩
  · rw [if_neg hf] at hh
    simp only [if_neg hf]
    exact ⟨A, c, none, 0, 0, hh.1, h.below hh.2, ⟨⟨rfl, Nat.le_refl _, by simp [maxLen], fun h => absurd h (by omega)⟩, by simp⟩, hh.2⟩
theorem hput9 {T : Tm} {n k : Nat} (h : IsC w A l.length c l) (ht : IsC w At k kc T.flat) (hD : IsI w D n e a) (ho : OkH ⟨l, tr, r⟩) (hT : T.ok = true) (hs : T.size ≤ 200) (ha : a.length ≤ 1000) :
    Calls Try.prog 19 #[.agg #[.slice A l.length c, .slice B tr.length d, .int .i64 r], .slice At k kc, .slice D n e] w (RetP9 w B d tr r (pRes l T a r) (pAt l T a r) (pPl l T a r) (pEr l T a r)) := by
  obtain ⟨h1, h2⟩ := ho.tr_len
  have hal := hD.len
  exact (hPut_any T A B D At l.length c tr.length d n e k kc r l a w h ht hD hT hs (by omega) (by omega)).mono fun e w' hh => hh.nine h
theorem qput9 {T : Tm} {n k : Nat} (h : IsC w A l.length c l) (ht : IsC w At k kc T.flat) (hD : IsI w D n e a) (ho : OkH ⟨l, tr, r⟩) (hT : T.ok = true) (hs : T.size ≤ 200) (ha : a.length ≤ 1000) :
    Calls Try.prog 20 #[.agg #[.slice A l.length c, .slice B tr.length d, .int .i64 r], .slice At k kc, .slice D n e] w (RetP9 w B d tr r (pRes l T a r) (pAt l T a r) (pPl l T a r) (pEr l T a r)) := by
  obtain ⟨h1, h2⟩ := ho.tr_len
  have hal := hD.len
  exact (qPut_any T A B D At l.length c tr.length d n e k kc r l a w h ht hD hT hs (by omega) (by omega)).mono fun e w' hh => hh.nine h
def RetG9 (w : World) (gb : Bool) (gt : List C) (e : Ending) (w' : World) : Prop := ∃ A' n' c', e = .returned (.tuple #[.slice A' n' c', .bool gb]) ∧ IsC w' A' n' c' gt ∧ Below w.heap.size w w'
theorem hget9 (h : IsC w A l.length c l) (ho : OkH ⟨l, tr, r⟩) (x : Int) : Calls Try.prog 21 #[.agg #[.slice A l.length c, .slice B tr.length d, .int .i64 r], .int .i64 x] w (RetG9 w (getZ l x).isSome ((getZ l x).getD [])) := by
  obtain ⟨h1, h2⟩ := ho.tr_len
  refine (hGet_any A B l.length c tr.length d r x l w h ho.good (by omega)).mono fun e w' hh => ?_
  unfold RetGet at hh
  obtain ⟨hb, hh⟩ := hh
  cases hz : getZ l x with
  | none =>
    rw [hz] at hh
    exact ⟨none, 0, 0, hh, isC_nil8 _ _, hb⟩
  | some t =>
    rw [hz] at hh
    obtain ⟨A', n', c', e1, e2⟩ := hh
    exact ⟨A', n', c', e1, e2, hb⟩
theorem getZ_len9 {l : List C} (hg : Good l) (x : Int) : ((getZ l x).getD []).length ≤ 200 := by
  unfold getZ
  split
  · rename_i hx
    cases hz : getF l x.toNat with
    | none => simp
    | some t => exact ((right_iff t).1 (getF_right hg (by omega) hz)).2
  · simp
theorem qget9 (h : IsC w A l.length c l) (ho : OkH ⟨l, tr, r⟩) (x : Int) : Calls Try.prog 22 #[.agg #[.slice A l.length c, .slice B tr.length d, .int .i64 r], .int .i64 x] w (RetG9 w (getZ l x).isSome ((getZ l x).getD [])) := by
  obtain ⟨h1, h2⟩ := ho.tr_len
  refine (qGet_any A B l.length c tr.length d r l x w h ho.good (by omega)).mono fun e w' hh => ?_
  unfold RetGet at hh
  obtain ⟨hb, hh⟩ := hh
  cases hz : getZ l x with
  | none =>
    rw [hz] at hh
    exact ⟨none, 0, 0, hh, isC_nil8 _ _, hb⟩
  | some t =>
    rw [hz] at hh
    obtain ⟨A', n', c', e1, e2⟩ := hh
    exact ⟨A', n', c', e1, e2, hb⟩
def RetU9 (w : World) (r : Int) (ub : Bool) (L : List C) (TR : List Int) (e : Ending) (w' : World) : Prop := ∃ A' c' B' d', e = .returned (.tuple #[.agg #[.slice A' L.length c', .slice B' TR.length d', .int .i64 r], .bool ub]) ∧ IsC w' A' L.length c' L ∧ IsI w' B' TR.length d' TR ∧ Below w.heap.size w w'
theorem huni9 (h : IsC w A l.length c l) (hT : IsI w B tr.length d tr) (ho : OkH ⟨l, tr, r⟩) (x y : Int) :
    Calls Try.prog 23 #[.agg #[.slice A l.length c, .slice B tr.length d, .int .i64 r], .int .i64 x, .int .i64 y] w (RetU9 w r (uniZ l tr x y).isSome (uRes l tr x y).1 (uRes l tr x y).2) :=
  (uni8 h hT ho x y).mono fun _ _ ⟨A', c', B', d', h1, h2, h3, h4, _⟩ => ⟨A', c', B', d', h1, h2, h3, h4⟩
theorem quni9 (h : IsC w A l.length c l) (hT : IsI w B tr.length d tr) (ho : OkH ⟨l, tr, r⟩) (x y : Int) :
    Calls Try.prog 24 #[.agg #[.slice A l.length c, .slice B tr.length d, .int .i64 r], .int .i64 x, .int .i64 y] w (RetU9 w r (uniZ l tr x y).isSome (uRes l tr x y).1 (uRes l tr x y).2) := by
  obtain ⟨h1, h2⟩ := ho.tr_len
  refine (qUnify_any A B l.length c tr.length d r l tr x y w h hT ho.good ho.tr (by omega) (by omega)).mono fun e w' hh => ?_
  unfold RetUniQ at hh
  obtain ⟨hb, hh⟩ := hh
  unfold uRes
  cases hu : uniZ l tr x y with
  | none =>
    rw [hu] at hh
    exact ⟨A, c, B, d, hh, h.below hb, hT.below hb, hb⟩
  | some u =>
    rw [hu] at hh
    obtain ⟨A', n', c', B', m', d', e1, e2, e3⟩ := hh
    have f1 := e2.len
    have f2 := e3.len
    subst f1 f2
    exact ⟨A', c', B', d', e1, e2, e3, hb⟩
def RetN9 (w : World) (l : List C) (tr : List Int) (r : Int) (e : Ending) (w' : World) : Prop := ∃ A' c' B' d', e = .returned (.agg #[.slice A' l.length c', .slice B' tr.length d', .int .i64 r]) ∧ IsC w' A' l.length c' l ∧ IsI w' B' tr.length d' tr ∧ Below w.heap.size w w'
theorem hundo9 {R : Option Addr} {k : Nat} {L : List C} {TR ds : List Int} (h : IsC w A L.length c L) (hT : IsI w B TR.length d TR) (ho : OkH ⟨L, TR, r⟩) (hh : Hst l tr L TR ds) :
    Calls Try.prog 29 #[.agg #[.slice A L.length c, .slice B TR.length d, .int .i64 r], .agg #[.int .i64 l.length, .int .i64 tr.length, .slice R k kc]] w (RetN9 w l tr r) := undo8 h hT ho hh
theorem qundo9 {R : Option Addr} {k : Nat} {L : List C} {TR ds : List Int} (h : IsC w A L.length c L) (hT : IsI w B TR.length d TR) (ho : OkH ⟨L, TR, r⟩) (hh : Hst l tr L TR ds) :
    Calls Try.prog 30 #[.agg #[.slice A L.length c, .slice B TR.length d, .int .i64 r], .agg #[.int .i64 l.length, .int .i64 tr.length, .slice R k kc]] w (RetN9 w l tr r) := by
  obtain ⟨h1, h2⟩ := ho.tr_len
  refine (qUndo_any A B R L.length c TR.length d l.length tr.length k kc r L TR w h hT (by omega) (by omega) hh.le hh.room hh.drops).mono fun e w' hr => ?_
  obtain ⟨A', n', c', B', m', d', e1, e2, e3, e4⟩ := hr
  obtain ⟨u1, u2⟩ := hh.undo
  have hset : undoR L TR l.length tr.length = l := by
    unfold undoR
    rw [setR_setA _ _ hh.drops (fun p hp hm => ?_)]
    · exact u1
    · obtain ⟨q, hq, hq1, hq2, _⟩ := ho.tr.at_ _ (List.mem_of_mem_drop hm)
      have : q = p := by omega
      subst this
      exact ⟨hq2, (ok_ref (shp_at ho.good.shp hq1) hq2).1⟩
  simp only [hset, u2] at e2 e3
  have f1 := e2.len
  have f2 := e3.len
  subst f1 f2
  exact ⟨A', c', B', d', e1, e2, e3, e4⟩
theorem ints_yes9 {A B : Option Addr} {n c n' d : Nat} {xs : List Int} {w : World} (h : IsI w A n c xs) (h' : IsI w B n' d xs) (hn : n ≤ 100000) : Calls Try.prog 27 #[.slice A n c, .slice B n' d] w (RetD w (.bool true)) := by
  have e1 := h.len
  have e2 := h'.len
  have := Ints8_any A B n n' c d xs xs w h h' hn (by omega)
  rw [(sameI_iff xs xs).2 rfl] at this
  exact this
theorem new_same (w : World) (x : Int) : Calls Try.prog 14 #[.agg #[.slice none 0 0, .slice none 0 0, .int .i64 x], .agg #[.slice none 0 0, .slice none 0 0, .int .i64 x]] w (RetV w (.bool true)) := by
  have hz : ∀ w : World, IsI w none 0 0 [] := fun w => ⟨⟨rfl, Nat.le_refl _, by simp [maxLen], fun h => absurd h (by omega)⟩, by simp⟩
  have := qSame_any none none none none 0 0 0 0 0 0 0 0 x x [] [] [] [] w (isC_nil8 _ _) (hz w) (isC_nil8 _ _) (hz w) (by omega) (by omega) (by omega) (by omega)
  rw [(sameH_iff ⟨[], [], x⟩ ⟨[], [], x⟩).2 rfl] at this
  exact this
end
end Go.Proofs.Ytlndjooddkjnoaa
