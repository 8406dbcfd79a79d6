/- The calls that HeapAlike makes of the heap, where a term fits. -/
import Derived.Test.YtlndjooddkjnoaaC4
import Derived.Test.YtlndjooddkjnoaaHW1
set_option linter.unusedVariables false
set_option linter.unusedSimpArgs false
namespace Go.Proofs.Ytlndjooddkjnoaa
open Go.RowKit

def RetPA (w : World) (B : Option Addr) (d : Nat) (tr : List Int) (r : Int) (q : List C × Nat × List Int) (e : Ending) (w' : World) : Prop := ∃ A' c' D' n' d', e = .returned (.tuple #[.agg #[.slice A' q.1.length c', .slice B tr.length d, .int .i64 r], .int .i64 (q.2.1 : Int), .slice D' n' d', .int .i64 0]) ∧ IsC w' A' q.1.length c' q.1 ∧ IsI w' D' n' d' q.2.2 ∧ Below w.heap.size w w'
section
variable {w : World} {A B D At : Option Addr} {c d e kc : Nat} {r : Int} {l : List C} {tr a : List Int}
theorem hputA {T : Tm} {n k : Nat} (h : IsC w A l.length c l) (ht : IsC w At k kc T.flat) (hD : IsI w D n e a) (ho : OkH ⟨l, tr, r⟩) (hT : T.ok = true) (hs : T.size ≤ 200) (ha : a.length ≤ 1000) (hf : ((putA l T a).1.length : Int) ≤ r) :
    Calls Try.prog 19 #[.agg #[.slice A l.length c, .slice B tr.length d, .int .i64 r], .slice At k kc, .slice D n e] w (RetPA w B d tr r (putA l T a)) := by
  obtain ⟨h1, h2⟩ := ho.tr_len
  have hal := hD.len
  refine (hPut_any T A B D At l.length c tr.length d n e k kc r l a w h ht hD hT hs (by omega) (by omega)).mono fun e w' hh => ?_
  unfold RetPut at hh
  rw [if_pos hf] at hh
  obtain ⟨A', n', c', D', k', d', e1, e2, e3, e4, e5⟩ := hh
  have f1 := e2.len
  subst f1
  exact ⟨A', c', D', k', d', e1, e2, e3, e4⟩
theorem huniA (h : IsC w A l.length c l) (hT : IsI w B tr.length d tr) (ho : OkH ⟨l, tr, r⟩) (x y : Int) :
    Calls Try.prog 23 #[.agg #[.slice A l.length c, .slice B tr.length d, .int .i64 r], .int .i64 x, .int .i64 y] w (fun e w' => ∃ A' c' B' d', e = .returned (.tuple #[.agg #[.slice A' (uRes l tr x y).1.length c', .slice B' (uRes l tr x y).2.length d', .int .i64 r], .bool (uniZ l tr x y).isSome]) ∧ IsC w' A' (uRes l tr x y).1.length c' (uRes l tr x y).1 ∧ IsI w' B' (uRes l tr x y).2.length d' (uRes l tr x y).2 ∧ Below w.heap.size w w') :=
  (uni8 h hT ho x y).mono fun _ _ ⟨A', c', B', d', h1, h2, h3, h4, _⟩ => ⟨A', c', B', d', h1, h2, h3, h4⟩
theorem hgetA (h : IsC w A l.length c l) (ho : OkH ⟨l, tr, r⟩) (x : Int) : Calls Try.prog 21 #[.agg #[.slice A l.length c, .slice B tr.length d, .int .i64 r], .int .i64 x] w (fun e w' => ∃ A' n' c', e = .returned (.tuple #[.slice A' n' c', .bool (getZ l x).isSome]) ∧ IsC w' A' n' c' ((getZ l x).getD []) ∧ Below w.heap.size w w') := by
  obtain ⟨h1, h2⟩ := ho.tr_len
  refine (hGet_any A B l.length c tr.length d r x l w h ho.good (by omega)).mono fun e w' hh => ?_
  unfold RetGet at hh
  obtain ⟨hb, hh⟩ := hh
  cases hz : getZ l x with
  | none =>
    rw [hz] at hh
    exact ⟨none, 0, 0, hh, isC_nil8 _ _, hb⟩
  | some t =>
    rw [hz] at hh
    obtain ⟨A', n', c', e1, e2⟩ := hh
    exact ⟨A', n', c', e1, e2, hb⟩
theorem happA {w : World} {A At : Option Addr} {n c k kc : Nat} {s : List (Int × List C)} {t : List C} (h : IsBs w A n c s) (ht : IsC w At k kc t) (hn : n ≤ 2000) (hk : k ≤ 2000) (hs : ∀ p ∈ s, p.2.length ≤ 1000) :
    Calls Try.prog 36 #[.slice A n c, .slice At k kc] w (fun e w' => ∃ A' n' c', e = .returned (.tuple #[.slice A' n' c', .bool (applyB s t).isSome]) ∧ IsC w' A' n' c' ((applyB s t).getD []) ∧ Below w.heap.size w w') := by
  refine (rApply_any A At n c k kc s t w h ht hn hk hs).mono fun e w' hh => ?_
  unfold RetAp at hh
  obtain ⟨hb, hh⟩ := hh
  cases hz : applyB s t with
  | none =>
    rw [hz] at hh
    exact ⟨none, 0, 0, hh, isC_nil8 _ _, hb⟩
  | some t =>
    rw [hz] at hh
    obtain ⟨A', n', c', e1, e2⟩ := hh
    exact ⟨A', n', c', e1, e2, hb⟩
theorem getZ_lenA {l : List C} {x : Int} {t : List C} (h : getZ l x = some t) : t.length ≤ 200 := by
  unfold getZ at h
  split at h
  · unfold getF at h
    split at h
    · rename_i hs
      injection h with h
      rw [← h, flat_size]
      exact hs.1
    · cases h
  · cases h
theorem applyB_len {s : List (Int × List C)} {t u : List C} (h : applyB s t = some u) : u.length ≤ 200 := by
  unfold applyB at h
  split at h
  · rename_i hs
    injection h with h
    rw [← h]
    exact hs
  · cases h
end
end Go.Proofs.Ytlndjooddkjnoaa
