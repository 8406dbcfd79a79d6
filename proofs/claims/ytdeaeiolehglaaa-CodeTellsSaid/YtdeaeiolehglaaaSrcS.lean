/- The clause that code may be of. No program in sight. -/
import Derived.Test.YtdeaeiolehglaaaSpecR
import Derived.Test.YtdeaeiolehglaaaMay
set_option linter.unusedVariables false
set_option linter.unusedSimpArgs false
namespace Go.Proofs.Ytdeaeiolehglaaa
open Go.RowKit

theorem MOk.step {M : Rm} {i : In} {k : Nat} (h : MOk M) (hl : ∀ j row, lk M.structs j = some row → row.length ≤ k) (hi : i.wf) : MOk (rdStep M i) ∧ ∀ j row, lk (rdStep M i).structs j = some row → row.length ≤ k + 1 := by
  have hl1 : ∀ j row, lk M.structs j = some row → row.length ≤ k + 1 := fun j row hr => Nat.le_succ_of_le (hl j row hr)
  unfold rdStep
  split
  · exact ⟨⟨h.ints, fun r n hr => by (simp only [lk_pt] at hr; split at hr; (cases hr; exact hi.x); (exact h.same r n hr)), h.rows⟩, hl1⟩
  · split
    · exact ⟨⟨fun r n hr => by (simp only [lk_pt] at hr; split at hr; (cases hr; exact hi.n); (exact h.ints r n hr)), h.same, h.rows⟩, hl1⟩
    · split
      · exact ⟨⟨h.ints, h.same, fun r row hr => by (simp only [lk_pt] at hr; split at hr; (cases hr; exact ⟨by simp, fun x hx => by simp at hx; subst hx; exact hi⟩); (exact h.rows r row hr))⟩, fun j row hr => by (simp only [lk_pt] at hr; split at hr; (cases hr; simp); (exact hl1 j row hr))⟩
      · split
        · have hold : ∀ x ∈ (lk M.structs M.opn).getD [], x.wf := by
            intro x hx
            cases hq : lk M.structs M.opn with
            | none => rw [hq] at hx; simp at hx
            | some row => rw [hq] at hx; exact (h.rows _ _ hq).2 x hx
          have hlen : ((lk M.structs M.opn).getD []).length ≤ k := by
            cases hq : lk M.structs M.opn with
            | none => simp
            | some row => exact hl _ _ hq
          refine ⟨⟨h.ints, h.same, fun r row hr => ?_⟩, fun j row hr => ?_⟩
          · simp only [lk_pt] at hr
            split at hr
            · cases hr
              exact ⟨by simp, fun x hx => (List.mem_append.1 hx).elim (hold x) (fun hx => by simp at hx; subst hx; exact hi)⟩
            · exact h.rows r row hr
          · simp only [lk_pt] at hr
            split at hr
            · cases hr; simp; omega
            · exact hl1 j row hr
        · exact ⟨h, hl1⟩
theorem readG_ok : ∀ (l : List In) (M : Rm) (k : Nat), MOk M → (∀ j row, lk M.structs j = some row → row.length ≤ k) → (∀ i ∈ l, i.wf) → MOk (readG M l) ∧ ∀ j row, lk (readG M l).structs j = some row → row.length ≤ k + l.length
  | [], M, k, h, hl, _ => ⟨h, hl⟩
  | i :: l, M, k, h, hl, hw => by
    obtain ⟨h1, h2⟩ := h.step hl (hw i (by simp))
    obtain ⟨h3, h4⟩ := readG_ok l (rdStep M i) (k + 1) h1 h2 (fun x hx => hw x (by simp [hx]))
    exact ⟨h3, fun j row hr => by have := h4 j row hr; simp; omega⟩
theorem readF_ok {l : List In} (hw : ∀ i ∈ l, i.wf) : MOk (readF l) ∧ ∀ j row, lk (readF l).structs j = some row → row.length ≤ l.length := by
  have := readG_ok l ⟨[], [], [], -1⟩ 0 ⟨fun r n h => by simp [lk] at h, fun r n h => by simp [lk] at h, fun r n h => by simp [lk] at h⟩ (fun j row h => by simp [lk] at h) hw
  simpa [readF] using this
/-- the head's arguments, k of them from register i on -/
def headR (M : Rm) : Nat → Rv → Nat → Rv × List C
  | 0, v, _ => (v, [])
  | k + 1, v, i => ((headR M k (termF M 1810 v i).1 (i + 1)).1, (termF M 1810 v i).2 ++ (headR M k (termF M 1810 v i).1 (i + 1)).2)
def bodyR (M : Rm) : Rv → List In → Rv × List (Bool × List C)
  | v, [] => (v, [])
  | v, i :: l => if i.op = 12 then ((bodyR M (termF M 1810 v i.a).1 l).1, (i.neg, (termF M 1810 v i.a).2) :: (bodyR M (termF M 1810 v i.a).1 l).2) else bodyR M v l
def candG (M : Rm) (l : List In) (e : In) : Raw := (⟨3, e.name, e.n⟩ :: (headR M e.n.toNat ⟨[], 0⟩ 0).2, (bodyR M (headR M e.n.toNat ⟨[], 0⟩ 0).1 l).2)
def candF (l : List In) (e : In) : Raw := candG (readF l) l e
/-- may the last instruction be a clause's last? -/
def endOk (e : In) : Prop := e.op = 13 ∧ 0 ≤ e.n ∧ e.n ≤ 6
instance (e : In) : Decidable (endOk e) := inferInstanceAs (Decidable (_ ∧ _))
theorem bodyR_len (M : Rm) : ∀ (l : List In) (v : Rv), (bodyR M v l).2.length ≤ l.length
  | [], _ => Nat.le_refl _
  | i :: l, v => by
    unfold bodyR
    split
    · have := bodyR_len M l (termF M 1810 v i.a).1; simp; omega
    · have := bodyR_len M l v; simp; omega
end Go.Proofs.Ytdeaeiolehglaaa
