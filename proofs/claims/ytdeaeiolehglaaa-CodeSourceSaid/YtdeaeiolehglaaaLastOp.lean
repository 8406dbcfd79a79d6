/- A load may be taken first where the one operation of the region that writes its cell waits for it. -/
import Derived.Deep.RegionHeldLaw
set_option linter.unusedVariables false
set_option linter.unusedSimpArgs false
namespace Go.Proofs.Ytdeaeiolehglaaa

section
variable {P : Program} {ops : Array Oper} {Q : Exit → Act → World → Prop} {md : Region.Mode} {S : World → Prop} {L : Nat}

/-- in whatever order: and behind each operation but number L the world meets S -/
def anyBut (P : Program) (md : Region.Mode) (ops : Array Oper) (Q : Exit → Act → World → Prop) (S : World → Prop) (L : Nat) : Nat → Array Bool → Act → World → Prop
  | 0, ls, a, w => Region.ready md ops ls = [] ∧ Q .normal a w
  | n + 1, ls, a, w => (Region.ready md ops ls = [] → Q .normal a w) ∧
      ∀ j ∈ Region.ready md ops ls, wpOp P ops Q j (fun b v => (j = L ∨ S v) ∧ anyBut P md ops Q S L n (ls.setIfInBounds j true) b v) a w

theorem any_of_but : ∀ (n : Nat) (ls : Array Bool) (a : Act) (w : World), anyBut P md ops Q S L n ls a w → wpAny P md ops Q n ls a w
  | 0, _, _, _, h => h
  | n + 1, _, _, _, h => ⟨h.1, fun j hj => wpOp_mono (fun b v hb => any_of_but n _ b v hb.2) (h.2 j hj)⟩

/-- operation L waits for operation i -/
def waits (md : Region.Mode) (ops : Array Oper) (L i : Nat) : Bool :=
  match ops[L]? with
  | none => false
  | some o => o.after.any fun e => Region.binds md e && e.on == i

theorem not_last {i j : Nat} {ls : Array Bool} (hw : waits md ops L i = true) (hi : i ∈ Region.ready md ops ls) (hj : j ∈ Region.ready md ops ls) : j ≠ L := by
  rintro rfl
  obtain ⟨_, o, ho, hall⟩ := mem_ready.1 hj
  obtain ⟨h0, o2, ho2, _⟩ := mem_ready.1 hi
  unfold waits at hw
  rw [ho] at hw
  obtain ⟨k, hk, hb2⟩ := Array.any_eq_true.1 hw
  have he : o.after[k] ∈ o.after := Array.getElem_mem hk
  generalize o.after[k] = e at he hb2
  simp only [Bool.and_eq_true, beq_iff_eq] at hb2
  obtain ⟨hb, rfl⟩ := hb2
  have h1 := hall e he hb
  rcases Nat.lt_or_ge e.on ls.size with h2 | h2
  · simp [h2] at h0 h1
    rw [h0] at h1
    cases h1
  · simp [Array.getElem?_eq_none h2] at h1

theorem but_first {i : Nat} {oi : Oper} {v : Value} (hi : ops[i]? = some oi) (hsel : ∀ (j : Nat) (o : Oper) cs b, ops[j]? = some o → o.op ≠ .select cs b)
    (hQ : ∀ c a w, Q (.panic c) (a.put oi.dst v) w → Q (.panic c) a w) (hw : waits md ops L i = true) :
    ∀ (n : Nat) (ls : Array Bool) (a : Act) (w : World),
      (∀ j oj, ops[j]? = some oj → j ≠ i → ls.getD j true = false → (∀ e ∈ oj.after, Region.binds md e = true → e.on ≠ i) → oi.apart ops oj = true) →
      i ∈ Region.ready md ops ls → YieldsIf P ops S oi v a → S w →
      anyBut P md ops Q S L n (ls.setIfInBounds i true) (a.put oi.dst v) w → anyBut P md ops Q S L (n + 1) ls a w := by
  intro n
  induction n with
  | zero =>
    intro ls a w _ hr hy hS H
    refine ⟨fun h => (by rw [h] at hr; cases hr), fun j hj => ?_⟩
    by_cases hji : j = i
    · subst hji; exact hy.wpOp hi hS ⟨.inr hS, H⟩
    · have hm := ready_mono hj hji
      rw [H.1] at hm
      cases hm
  | succ n ih =>
    intro ls a w hfree hr hy hS H
    refine ⟨fun h => (by rw [h] at hr; cases hr), fun j hj => ?_⟩
    by_cases hji : j = i
    · subst hji; exact hy.wpOp hi hS ⟨.inr hS, H⟩
    have hjL := not_last hw hr hj
    obtain ⟨hun, oj, hoj, hall⟩ := mem_ready.1 hj
    have hno : ∀ e ∈ oj.after, Region.binds md e = true → e.on ≠ i := fun e he hb heq => by
      have h1 := hall e he hb
      have h0 := (mem_ready.1 hr).1
      rw [heq] at h1
      rcases Nat.lt_or_ge i ls.size with h2 | h2
      · simp [h2] at h0 h1; rw [h0] at h1; cases h1
      · simp [Array.getElem?_eq_none h2] at h1
    have h2 := wpOp_putIf hoj (hfree j oj hoj hji hun hno) (fun cs b => hsel i oi cs b hi) (fun cs b => hsel j oj cs b hoj) hQ hy (H.2 j (ready_mono hj hji))
    refine wpOp_mono (fun b v h3 => ?_) h2
    have hSv : S v := h3.2.1.resolve_left hjL
    refine ⟨.inr hSv, ih (ls.setIfInBounds j true) b v (fun k ok hk hki hunk hnok => ?_) (ready_mono hr (Ne.symm hji)) h3.1 hSv ?_⟩
    · refine hfree k ok hk hki ?_ hnok
      by_cases hjk : j = k
      · subst hjk; exact hun
      · rw [getD_set_ne true hjk] at hunk; exact hunk
    · rw [Array.setIfInBounds_comm _ _ hji]
      exact h3.2.2

theorem but_take {i : Nat} {oi : Oper} {v : Value} {n : Nat} {ls : Array Bool} {a : Act} {w : World} (hi : ops[i]? = some oi)
    (hs : Region.noSelect ops = true) (hf : Region.free md ops ls i = true) (hr : (Region.ready md ops ls).contains i = true) (hw : waits md ops L i = true)
    (hQ : ∀ c a w, Q (.panic c) (a.put oi.dst v) w → Q (.panic c) a w) (hy : YieldsIf P ops S oi v a) (hS : S w)
    (h : anyBut P md ops Q S L n (ls.setIfInBounds i true) (a.put oi.dst v) w) : anyBut P md ops Q S L (n + 1) ls a w :=
  but_first hi (Region.noSelect_spec hs) hQ hw n ls a w (Region.free_spec hi hf) (by simpa using hr) hy hS h

/-- one operation alone may come up -/
theorem but_one {i : Nat} {o : Oper} {n : Nat} {ls : Array Bool} {a : Act} {w : World} (hr : Region.ready md ops ls = [i]) (ho : ops[i]? = some o)
    (h : ∀ K : Act → World → Prop, Shut (∀ b v, (i = L ∨ S v) → anyBut P md ops Q S L n (ls.setIfInBounds i true) b v → K b v) → if Region.wanted o (yielded ops a.tmps) = true then Oper.wp P o a w K Q else K (a.put o.dst undef) w) :
    anyBut P md ops Q S L (n + 1) ls a w := by
  refine ⟨fun h0 => (by rw [h0] at hr; cases hr), fun j hj => ?_⟩
  rw [hr, List.mem_singleton] at hj
  subst hj
  exact wpOp_step ho (fun K hK => h K (fun b v hS hW => hK b v ⟨hS, hW⟩))

theorem but_done {ls : Array Bool} {a : Act} {w : World} (hr : Region.ready md ops ls = []) (h : Q .normal a w) : ∀ n, anyBut P md ops Q S L n ls a w
  | 0 => ⟨hr, h⟩
  | _ + 1 => ⟨fun _ => h, by rw [hr]; simp⟩

theorem region_but {id : Nat} {a : Act} {w : World} (L : Nat) (S : World → Prop) (hm : P.follows .mixedOrders = true)
    (h : anyBut P .any ops Q S L ops.size (Array.replicate ops.size false) a w.drew) : (Code.region id ops true).wp P Q a w :=
  wp_region_any hm (any_of_but _ _ _ _ h)
end
end Go.Proofs.Ytdeaeiolehglaaa
