/- The walks that turn a term's variables into others. -/
import Derived.Test.YtdeaeiolehglaaaM0
import Derived.Test.YtdeaeiolehglaaaM7
set_option linter.unusedVariables false
set_option linter.unusedSimpArgs false
namespace Go.Proofs.Ytdeaeiolehglaaa
open Go.RowKit

theorem infoC : (Try.prog.info? 45).map (fun i => (i.zero, i.size, i.bytes)) = some (some (.agg #[.int .i64 0, .string ⟨#[]⟩, .int .i64 0]), 3, 32) := by kernel_rfl
/-- a row of cells that the call owns -/
def RetOwn (w : World) (cs : List C) (e : Ending) (w' : World) : Prop := ∃ A cap, e = .returned (.slice A cs.length cap) ∧ w'.ownsRow w.heap.size 45 3 (.slice A cs.length cap) cs.length (flatC cs) ∧ Below w.heap.size w w'

theorem flatC_set (l : List C) (k : Nat) (x : C) (v : Int) (h : l[k]? = some x) : (flatC l).set (k * 3 + 2) (.int .i64 v) = flatC (l.set k { x with n := v }) := by
  induction l generalizing k with
  | nil => simp at h
  | cons d l ih =>
    cases k with
    | zero => simp at h; subst h; simp [flatC, C.flat]
    | succ k =>
      have := ih k (by simpa using h)
      rw [Nat.succ_mul]
      simp [flatC, C.flat] at this ⊢
      exact this
theorem turn_step (f : Int → Int) {t : List C} {k : Nat} {x : C} (hx : t[k]? = some x) (hk : x.kind = 1) :
    (flatC (turnF f (t.take k) ++ t.drop k)).set (k * 3 + 2) (.int .i64 (f x.n)) = flatC (turnF f (t.take (k + 1)) ++ t.drop (k + 1)) := by
  obtain ⟨hl, he⟩ := List.getElem?_eq_some_iff.1 hx
  have hlen : (turnF f (t.take k)).length = k := by simp [turnF]; omega
  rw [flatC_set _ k x]
  · congr 1
    rw [List.set_append_right _ _ (by omega), hlen, Nat.sub_self, drop_get hx, List.take_succ_eq_append_getElem hl, he]
    simp [turnF, hk]
  · rw [List.getElem?_append_right (by omega), hlen, Nat.sub_self, drop_get hx]
    rfl
theorem turn_keep (f : Int → Int) {t : List C} {k : Nat} {x : C} (hx : t[k]? = some x) (hk : x.kind ≠ 1) :
    turnF f (t.take k) ++ t.drop k = turnF f (t.take (k + 1)) ++ t.drop (k + 1) := by
  obtain ⟨hl, he⟩ := List.getElem?_eq_some_iff.1 hx
  rw [drop_get hx, List.take_succ_eq_append_getElem hl, he]
  simp [turnF, hk]

theorem turn_wf {f : Int → Int} (hf : ∀ x, i64 (f x)) {t : List C} (h : ∀ c ∈ t, c.wf) : ∀ c ∈ turnF f t, c.wf := by
  intro c hc
  obtain ⟨d, hd, rfl⟩ := List.mem_map.1 hc
  have := h d hd
  split
  · exact ⟨this.kind, hf _, this.name⟩
  · exact this
theorem wrap64_i64 (n : Int) : i64 (wrap64 n) := by unfold i64 wrap64; omega
theorem place_i64 (ns : List Int) (x : Int) (h : ns.length ≤ 100000) : i64 (placeI ns x) := by
  have := idxF_le (fun y => y == x) ns 0
  unfold i64 placeI
  omega





theorem IsC.nil0 (w : World) : IsC w none 0 0 [] := IsC.nil w none 0 (by simp [maxLen])
theorem shiftF_yes {t : List C} {v : Int} (h : rightB (turnF (fun n : Int => wrap64 (n + v)) t) = true) : shiftF t v = turnF (fun n : Int => wrap64 (n + v)) t := by simp [shiftF, h]
theorem shiftF_no {t : List C} {v : Int} (h : rightB (turnF (fun n : Int => wrap64 (n + v)) t) = false) : shiftF t v = [] := by simp [shiftF, h]


theorem varsA_len : ∀ (cs : List C) (acc : List Int), (varsA acc cs).length ≤ acc.length + cs.length
  | [], acc => by simp [varsA]
  | c :: cs, acc => by
    rw [varsA_cons]
    split
    · have := varsA_len cs (acc ++ [c.n]); simp at this ⊢; omega
    · have := varsA_len cs acc; simp; omega
theorem varsF_len (t : List C) : (varsF t).length ≤ t.length := by have := varsA_len t []; simpa [varsF] using this




end Go.Proofs.Ytdeaeiolehglaaa
