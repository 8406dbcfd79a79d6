/- A region that draws its order, where three or four operations may come up. -/
import Derived.Test.YtlndjooddkjnoaaB0
set_option linter.unusedVariables false
set_option linter.unusedSimpArgs false
namespace Go.Proofs.Ytlndjooddkjnoaa
section
variable {P : Program} {ops : Array Oper} {Q : Exit → Act → World → Prop} {md : Region.Mode} {S : World → Prop}
theorem held_many {rs : List Nat} {n : Nat} {ls : Array Bool} {a : Act} {w : World} (hr : Region.ready md ops ls = rs) (hne : rs ≠ [])
    (h : ∀ i ∈ rs, ∃ oi, ops[i]? = some oi ∧ ∀ K : Act → World → Prop, Shut (∀ b v, S v → wpAnyH P md ops Q S n (ls.setIfInBounds i true) b v → K b v) → if Region.wanted oi (yielded ops a.tmps) = true then Oper.wp P oi a w K Q else K (a.put oi.dst undef) w) :
    wpAnyH P md ops Q S (n + 1) ls a w := by
  refine wpAnyH_all hr (by simp [hne]) fun k hk => ?_
  obtain ⟨oi, h1, h2⟩ := h k hk
  exact wpOp_step h1 (fun K hK => h2 K (fun b v hS hW => hK b v ⟨hS, hW⟩))
theorem held_three {i j k : Nat} {oi oj ok : Oper} {n : Nat} {ls : Array Bool} {a : Act} {w : World} (hr : Region.ready md ops ls = [i, j, k]) (hoi : ops[i]? = some oi) (hoj : ops[j]? = some oj) (hok : ops[k]? = some ok)
    (hi : ∀ K : Act → World → Prop, Shut (∀ b v, S v → wpAnyH P md ops Q S n (ls.setIfInBounds i true) b v → K b v) → if Region.wanted oi (yielded ops a.tmps) = true then Oper.wp P oi a w K Q else K (a.put oi.dst undef) w)
    (hj : ∀ K : Act → World → Prop, Shut (∀ b v, S v → wpAnyH P md ops Q S n (ls.setIfInBounds j true) b v → K b v) → if Region.wanted oj (yielded ops a.tmps) = true then Oper.wp P oj a w K Q else K (a.put oj.dst undef) w)
    (hk : ∀ K : Act → World → Prop, Shut (∀ b v, S v → wpAnyH P md ops Q S n (ls.setIfInBounds k true) b v → K b v) → if Region.wanted ok (yielded ops a.tmps) = true then Oper.wp P ok a w K Q else K (a.put ok.dst undef) w) :
    wpAnyH P md ops Q S (n + 1) ls a w := by
  refine held_many hr (by simp) fun x hx => ?_
  rcases List.mem_cons.1 hx with rfl | hx
  · exact ⟨_, hoi, hi⟩
  rcases List.mem_cons.1 hx with rfl | hx
  · exact ⟨_, hoj, hj⟩
  rw [List.mem_singleton] at hx
  subst hx
  exact ⟨_, hok, hk⟩
theorem held_four {i j k m : Nat} {oi oj ok om : Oper} {n : Nat} {ls : Array Bool} {a : Act} {w : World} (hr : Region.ready md ops ls = [i, j, k, m]) (hoi : ops[i]? = some oi) (hoj : ops[j]? = some oj) (hok : ops[k]? = some ok) (hom : ops[m]? = some om)
    (hi : ∀ K : Act → World → Prop, Shut (∀ b v, S v → wpAnyH P md ops Q S n (ls.setIfInBounds i true) b v → K b v) → if Region.wanted oi (yielded ops a.tmps) = true then Oper.wp P oi a w K Q else K (a.put oi.dst undef) w)
    (hj : ∀ K : Act → World → Prop, Shut (∀ b v, S v → wpAnyH P md ops Q S n (ls.setIfInBounds j true) b v → K b v) → if Region.wanted oj (yielded ops a.tmps) = true then Oper.wp P oj a w K Q else K (a.put oj.dst undef) w)
    (hk : ∀ K : Act → World → Prop, Shut (∀ b v, S v → wpAnyH P md ops Q S n (ls.setIfInBounds k true) b v → K b v) → if Region.wanted ok (yielded ops a.tmps) = true then Oper.wp P ok a w K Q else K (a.put ok.dst undef) w)
    (hm : ∀ K : Act → World → Prop, Shut (∀ b v, S v → wpAnyH P md ops Q S n (ls.setIfInBounds m true) b v → K b v) → if Region.wanted om (yielded ops a.tmps) = true then Oper.wp P om a w K Q else K (a.put om.dst undef) w) :
    wpAnyH P md ops Q S (n + 1) ls a w := by
  refine held_many hr (by simp) fun x hx => ?_
  rcases List.mem_cons.1 hx with rfl | hx
  · exact ⟨_, hoi, hi⟩
  rcases List.mem_cons.1 hx with rfl | hx
  · exact ⟨_, hoj, hj⟩
  rcases List.mem_cons.1 hx with rfl | hx
  · exact ⟨_, hok, hk⟩
  rw [List.mem_singleton] at hx
  subst hx
  exact ⟨_, hom, hm⟩
end
end Go.Proofs.Ytlndjooddkjnoaa
