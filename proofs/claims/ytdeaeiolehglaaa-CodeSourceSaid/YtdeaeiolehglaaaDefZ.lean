/- What the document's reader of code gathers is small; the clause that it tells, or that there is none. No program in sight. -/
import Derived.Test.YtdeaeiolehglaaaDefT
import Derived.Test.YtdeaeiolehglaaaDefX
import Derived.Test.YtdeaeiolehglaaaBack3
set_option linter.unusedVariables false
set_option linter.unusedSimpArgs false
namespace Go.Proofs.Ytdeaeiolehglaaa
open Go.RowKit

theorem sw_is (s : List Dd × Int) (c : In) : (swF s c).2.2.is = 0 ∨ (swF s c).2.2.is = 2 ∨ (swF s c).2.2.is = 4 := by
  unfold swF
  repeat' split
  all_goals simp
def PartsOk (D : List Dd) : Prop := ∀ x ∈ D, ∀ p ∈ x.parts, p.is = 2 ∨ p.is = 4
theorem parts_step {s : List Dd × Int} {c : In} (h : PartsOk s.1) : PartsOk (dfStep s c).1 := by
  intro y hy
  rw [sw_step] at hy
  simp only at hy
  have old : ∀ x : Dd, (x ∈ s.1 ∨ x.parts = []) → ∀ p ∈ x.parts, p.is = 2 ∨ p.is = 4 := fun x hx => hx.elim (h x) fun e => by rw [e]; simp
  split at hy
  · rename_i hpos
    unfold partF at hy
    split at hy
    · rename_i ho
      rcases mem_with hy with hy | rfl
      · exact old y (sw_mem hy)
      · intro p hp
        simp only at hp
        rcases List.mem_append.1 hp with hp | hp
        · exact old _ (sw_mem (getD_mem ho)) p hp
        · simp at hp
          subst hp
          have := sw_is s c
          omega
    · exact old y (sw_mem hy)
  · exact old y (sw_mem hy)
theorem parts_all' : ∀ (l : List In) (s : List Dd × Int), PartsOk s.1 → PartsOk (dfG s l).1
  | [], s, h => h
  | i :: l, s, h => parts_all' l _ (parts_step h)
theorem defs_ok (l : List In) (n : Nat) : PartsOk (defsF l n) := parts_all' l _ fun x hx => by rw [List.eq_of_mem_replicate hx]; simp
theorem defs_len (l : List In) (n : Nat) : (defsF l n).length = n := by unfold defsF; rw [dfG_len]; simp
theorem defs_parts (l : List In) (n : Nat) : ∀ x ∈ defsF l n, x.parts.length ≤ l.length := fun x hx => by
  have := parts_all_len l (List.replicate n {}, -1) 0 (fun y hy => by rw [List.eq_of_mem_replicate hy]; simp) x hx
  omega
theorem told_reg {D : List Dd} (h : PartsOk D) (k : Nat) (fuel : Int) {r : Int} (hr : 0 ≤ r ∧ r < D.length) : ∀ c ∈ toldK D k fuel (getD' D r) r, c.kind = 1 → 0 ≤ c.n ∧ c.n < (D.length : Int) := by
  have h1 : ∀ x ∈ D, ∀ p ∈ x.parts, p.is ≠ 1 := fun x hx p hp => by have := h x hx p hp; omega
  have h3 : ∀ x ∈ D, ∀ p ∈ x.parts, p.is ≠ 3 := fun x hx p hp => by have := h x hx p hp; omega
  exact toldK_reg D h1 k fuel _ r (fun _ => hr) (fun _ p hp => ⟨h1 _ (getD_mem hr) p hp, h3 _ (getD_mem hr) p hp⟩) h3
theorem thead_reg {D : List Dd} (h : PartsOk D) : ∀ (k i : Nat), i + k ≤ D.length → ∀ c ∈ tHead D k i, c.kind = 1 → 0 ≤ c.n ∧ c.n < (D.length : Int)
  | 0, _, _ => by simp [tHead]
  | k + 1, i, hi => by
    intro c hc
    rw [tHead, List.mem_append] at hc
    rcases hc with hc | hc
    · exact told_reg h 400 400 (r := (i : Int)) ⟨by omega, by omega⟩ c hc
    · exact thead_reg h k (i + 1) (by omega) c hc
theorem tbody_reg {D : List Dd} (h : PartsOk D) : ∀ (l : List In), ∀ p ∈ tBody D l, ∀ c ∈ p.2, c.kind = 1 → 0 ≤ c.n ∧ c.n < (D.length : Int)
  | [], p, hp => by simp [tBody] at hp
  | i :: l, p, hp => by
    rw [tBody] at hp
    split at hp
    · rename_i hi
      rcases List.mem_cons.1 hp with rfl | hp
      · exact told_reg h 400 400 hi.2
      · exact tbody_reg h l p hp
    · exact tbody_reg h l p hp
theorem varsLr_nodup : ∀ (b : List (Bool × List C)) (acc : List Int), acc.Nodup → (varsLr acc b).Nodup
  | [], acc, h => h
  | p :: b, acc, h => varsLr_nodup b _ (varsA_nodup _ _ h)
theorem varsLr_mem : ∀ (b : List (Bool × List C)) (acc : List Int) (x : Int), x ∈ varsLr acc b → x ∈ acc ∨ ∃ p ∈ b, ∃ c ∈ p.2, c.kind = 1 ∧ c.n = x
  | [], acc, x, h => .inl h
  | p :: b, acc, x, h => by
    rcases varsLr_mem b _ x h with h | ⟨q, hq, h⟩
    · rcases mem_varsA.1 h with h | ⟨c, h1, h2⟩
      · exact .inl h
      · exact .inr ⟨p, by simp, c, h1, h2⟩
    · exact .inr ⟨q, by simp [hq], h⟩
/-- the variables of what is told are not many -/
theorem cand_vars (l : List In) (n : Nat) (e : In) : (varsLr (varsF (candD l n e).1) (candD l n e).2).length ≤ n := by
  have hok := defs_ok l n
  have hdl := defs_len l n
  refine nodup_len n _ (varsLr_nodup _ _ (varsF_nodup _)) fun x hx => ?_
  rcases varsLr_mem _ _ x hx with hx | ⟨p, hp, c, hc, hk, rfl⟩
  · rcases mem_varsA.1 (show x ∈ varsA [] _ from hx) with h | ⟨c, hc, hk, rfl⟩
    · simp at h
    · unfold candD at hc
      rcases List.mem_cons.1 hc with rfl | hc
      · simp at hk
      · have := thead_reg hok _ 0 (by rw [hdl]; omega) c hc hk
        rw [hdl] at this
        exact this
  · have := tbody_reg hok l p hp c hc hk
    rw [hdl] at this
    exact this
theorem cand_len (l : List In) (n : Nat) (e : In) : (candD l n e).1.length ≤ 1 + 200 * n ∧ (candD l n e).2.length ≤ l.length ∧ ∀ x ∈ (candD l n e).2, x.2.length ≤ 200 := by
  have h1 := tHead_len (defsF l n) (min e.n.toNat n) 0
  have h2 := tBody_len (defsF l n) l
  refine ⟨?_, h2.1, h2.2⟩
  unfold candD
  simp only [List.length_cons]
  have : min e.n.toNat n ≤ n := Nat.min_le_right _ _
  omega
/-- may the last instruction be a clause's last? -/
def endD (l : List In) (N : Nat) (e : In) : Prop := N ≤ l.length + 6 ∧ e.op = 13 ∧ 0 ≤ e.n ∧ e.n ≤ N
/-- code that is a clause's -/
theorem code_doc {c : Cls} {r : Raw} (h : IsCls c r) {l : List In} (hl : compF c = l) {e : In} (he : l[l.length - 1]? = some e) {N : Nat} (hN : regsF 0 l = N) : endD l N e ∧ numR (candD l N e) = numC c := by
  obtain ⟨n, n1, n2, n3, n4⟩ := code_told h
  have hlast := comp_at hl he
  have he' := comp_end h
  rw [hl] at n1 n3 n4
  rw [hlast] at n4 he'
  have hn : n = N := by omega
  subst hn
  obtain ⟨nm, us, hf⟩ := (c0_kind3 c.head).1 h.hok.2.2
  have hn2 : (lastI c.head).n = c.head.args.length := by rw [hf]; simp [lastI, Tm.c0, Tm.args]
  have h6 := args_len h.hok.1
  rw [hlast] at hn2
  unfold endOk at he'
  exact ⟨⟨by omega, he'.1, he'.2.1, by omega⟩, n4⟩
/-- what the document's Source answers -/
def RetDoc (w : World) (l : List In) (e : Ending) (w' : World) : Prop :=
  (e = .returned (.tuple #[.agg #[.slice none 0 0, .slice none 0 0], .bool false]) ∧ (∀ c r, IsCls c r → compF c ≠ l) ∧ Below w.heap.size w w') ∨
  ∃ c A n cp B m d, IsCls c (numC c) ∧ compF c = l ∧ e = .returned (.tuple #[.agg #[.slice A n cp, .slice B m d], .bool true]) ∧ IsC w' A n cp (numC c).1 ∧ IsLs w' B m d (numC c).2 ∧ Below w.heap.size w w'
theorem doc_may {l : List In} {e : In} {N : Nat} (he : l[l.length - 1]? = some e) (hN : regsF 0 l = N) (hno : mayB (numR (candD l N e)) = false) : ∀ c r, IsCls c r → compF c ≠ l := fun c r hc hcl => by
  have := (code_doc hc hcl he hN).2
  rw [this, cls_may (numCls_is hc)] at hno
  cases hno
theorem doc_ne {l : List In} {e : In} {N : Nat} (he : l[l.length - 1]? = some e) (hN : regsF 0 l = N) {c' : Cls} (hc' : IsCls c' (numR (candD l N e))) (hne : compF c' ≠ l) : ∀ c r, IsCls c r → compF c ≠ l := fun c r hc hcl => by
  have := (code_doc hc hcl he hN).2
  rw [this] at hc'
  exact hne (by rw [hc'.inj (numCls_is hc), comp_num hc]; exact hcl)
theorem doc_eq {l : List In} {e : In} {N : Nat} (he : l[l.length - 1]? = some e) (hN : regsF 0 l = N) {c' : Cls} (hc' : IsCls c' (numR (candD l N e))) (heq : compF c' = l) : numR (candD l N e) = numC c' := (code_doc hc' heq he hN).2
end Go.Proofs.Ytdeaeiolehglaaa
