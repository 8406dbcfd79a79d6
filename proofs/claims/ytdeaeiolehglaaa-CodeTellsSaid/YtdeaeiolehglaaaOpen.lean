/- The arguments of a law, opened: a slice of cells that came in reads as a list of cells; and so on. -/
import Derived.Test.YtdeaeiolehglaaaRows
import Derived.Test.YtdeaeiolehglaaaVoc
import Derived.ProofKit
import Derived.OpenShut
import Derived.ShutString
import Derived.ChangeOld
import Derived.Deep.Slices
import Derived.Deep.Fields
import Derived.ChangeSame
import Derived.Lib.SmallJoins
set_option linter.unusedVariables false
set_option linter.unusedSimpArgs false
namespace Go.Proofs.Ytdeaeiolehglaaa
open Go.RowKit Go.ChangeShapes Go.WideShapes Go.Deep

theorem fieldsC : Try.prog.underlying 45 = some (.struct (Try.prog.fieldsOf 45)) := by kernel_rfl
theorem fieldC0 : ((Try.prog.fieldsOf 45)[0]?).map (·.type) = some 3 := by kernel_rfl
theorem fieldC1 : ((Try.prog.fieldsOf 45)[1]?).map (·.type) = some 9 := by kernel_rfl
theorem fieldC2 : ((Try.prog.fieldsOf 45)[2]?).map (·.type) = some 3 := by kernel_rfl
theorem fieldC3 : (Try.prog.fieldsOf 45).size = 3 := by kernel_rfl
theorem cellsC : Try.prog.cellsOf 45 = 3 := by kernel_rfl
theorem cellsCs : Try.prog.cellsOf 22 = 1 := by kernel_rfl
theorem oneFieldsC : oneCellFields Try.prog (Try.prog.fieldsOf 45) = true := by kernel_rfl

theorem wf_i64 {n : Int} (h : (Lit.int .i64 n).wf = true) : i64 n := by
  simp [Lit.wf, IntKind.min, IntKind.max, IntKind.signed, IntKind.bits] at h
  unfold i64
  omega
theorem spot_none {w : World} {a : Addr} {v : Value} (h : w.cell? a = some v) : a.spot = none := World.cell?_spot h

theorem build_list {α : Type} (Pr : Nat → α → Prop) : ∀ n : Nat, (∀ i, i < n → ∃ c, Pr i c) → ∃ cs : List α, cs.length = n ∧ ∀ (i : Nat) (c : α), cs[i]? = some c → Pr i c := by
  intro n
  induction n with
  | zero => intro _; exact ⟨[], rfl, by simp⟩
  | succ n ih =>
    intro key
    obtain ⟨cs, h1, h2⟩ := ih (fun i hi => key i (by omega))
    obtain ⟨c, hc⟩ := key n (by omega)
    refine ⟨cs ++ [c], by simp [h1], fun i d hd => ?_⟩
    rw [List.getElem?_append] at hd
    split at hd
    · exact h2 i d hd
    · rename_i hi
      have : i = cs.length := by
        have := (List.getElem?_eq_some_iff.1 hd).1
        simp at this
        omega
      subst this
      simp at hd
      subst hd
      rw [h1]
      exact hc
section
variable {H : Type} {enc : TypeId × Value → H} {w : World} {base : Nat} {spare : Nat → Bool} {held : Bool}
theorem open_cells {fuel : Nat} {v : Value} {x : DataW H × List MemPlace} (h : DataW.trod enc Try.prog w base spare held fuel 22 [v] = some x) :
    ∃ A n cap cs, v = .slice A n cap ∧ IsC w A n cap cs := by
  rcases open_slice Try.underlying22 h with ⟨hcs, _⟩ | ⟨a, len, cap, m, n, D, Pl, hcs, _, hl, hm, hmm, _, hel⟩
  · simp at hcs
    exact ⟨none, 0, 0, [], hcs, IsC.nil w none 0 (by simp [maxLen])⟩
  · simp at hcs
    subst hcs
    have hlm : len ≤ m := by rw [hmm]; split <;> omega
    have key : ∀ i, i < len → ∃ c : C, c.wf ∧ w.cell? (a.add (i * 3)) = some (.int .i64 c.kind) ∧ w.cell? ((a.add (i * 3)).add 1) = some (.string c.name) ∧ w.cell? ((a.add (i * 3)).add 2) = some (.int .i64 c.n) := by
      intro i hi
      obtain ⟨cs', hc, ht'⟩ := hel i (by omega)
      rw [cellsC] at hc
      obtain ⟨ys, n', hn', hy, hlen, hyl, hf⟩ := DataW.trod_struct fieldsC ht'
      obtain ⟨_, hcl, hat⟩ := World.cells?_some hc
      have get : ∀ (j : Nat) (t : TypeId), ((Try.prog.fieldsOf 45)[j]?).map (·.type) = some t → ∃ u z, w.cell? ((a.add (i * 3)).add j) = some u ∧ DataW.trod enc Try.prog w base spare held n' t [u] = some z := by
        intro j t hj
        obtain ⟨f, hj', hft⟩ := Option.map_eq_some_iff.1 hj
        subst hft
        clear hj
        have hj := hj'
        obtain ⟨ho, hk⟩ := hone_of oneFieldsC j f hj
        have hjl : j < (Try.prog.fieldsOf 45).size := (Array.getElem?_eq_some_iff.1 hj).1
        rw [fieldC3] at hjl
        have hcell := hat j hjl
        have h1 := hf j f hj
        rw [ho, hk] at h1
        have hone' : (cs'.drop j).take 1 = [cs'[j]'(by omega)] := by
          rw [List.drop_eq_getElem_cons (by omega)]
          rfl
        rw [hone'] at h1
        have hys : ys[j]? = some (ys[j]'(by rw [hyl, fieldC3]; exact hjl)) := List.getElem?_eq_getElem _
        rw [List.getElem?_eq_getElem (by omega)] at hcell
        exact ⟨_, _, hcell, h1.trans hys⟩
      obtain ⟨u0, z0, c0, t0⟩ := get 0 _ fieldC0
      obtain ⟨u1, z1, c1, t1⟩ := get 1 _ fieldC1
      obtain ⟨u2, z2, c2, t2⟩ := get 2 _ fieldC2
      obtain ⟨k, e0, _, w0⟩ := DataW.trod_int Try.underlying3 t0
      obtain ⟨s, e1, _, w1⟩ := DataW.trod_string Try.underlying9 t1
      obtain ⟨q, e2, _, w2⟩ := DataW.trod_int Try.underlying3 t2
      simp at e0 e1 e2
      subst e0 e1 e2
      exact ⟨⟨k, s, q⟩, ⟨wf_i64 w0, wf_i64 w2, w1⟩, by simpa [Addr.add] using c0, c1, c2⟩
    have hcs := build_list _ len key
    obtain ⟨cs, hlen, hcell⟩ := hcs
    refine ⟨some a, len, cap, cs, rfl, ⟨by rw [flatC_len, hlen], hl, hm, fun hn => ?_⟩, fun c hc => ?_⟩
    · obtain ⟨b, off, spot⟩ := a
      obtain ⟨c, hc⟩ : ∃ c, cs[0]? = some c := ⟨_, List.getElem?_eq_getElem (by omega)⟩
      have h0 := (hcell 0 c hc).2.1
      have hs : spot = none := by simpa [Addr.add] using spot_none h0
      subst hs
      refine ⟨b, off, rfl, World.block_lt_of_cell? w _ h0, fun j u hu => ?_⟩
      have hadd : ∀ k, (⟨b, off, none⟩ : Addr).add k = ⟨b, off + k, none⟩ := fun k => by unfold Addr.add; split <;> simp_all
      have hadd' : ∀ o k, (⟨b, o, none⟩ : Addr).add k = ⟨b, o + k, none⟩ := fun o k => by unfold Addr.add; split <;> simp_all
      have hjl : j < cs.length * 3 := by
        have := (List.getElem?_eq_some_iff.1 hu).1
        rwa [flatC_len] at this
      obtain ⟨q, hq⟩ : ∃ q, cs[j / 3]? = some q := ⟨_, List.getElem?_eq_getElem (by omega)⟩
      obtain ⟨_, g0, g1, g2⟩ := hcell _ q hq
      obtain ⟨f0, f1, f2⟩ := flatC_get cs (j / 3) q hq
      rw [hadd] at g0 g1 g2
      rw [hadd'] at g1 g2
      have hm3 : j % 3 = 0 ∨ j % 3 = 1 ∨ j % 3 = 2 := by omega
      rcases hm3 with hm3 | hm3 | hm3
      · have e : j = j / 3 * 3 := by omega
        rw [e] at hu ⊢
        rw [f0] at hu
        injection hu with hu
        rw [← hu]
        exact g0
      · have e : j = j / 3 * 3 + 1 := by omega
        rw [e] at hu ⊢
        rw [f1] at hu
        injection hu with hu
        rw [← hu, ← Nat.add_assoc]
        exact g1
      · have e : j = j / 3 * 3 + 2 := by omega
        rw [e] at hu ⊢
        rw [f2] at hu
        injection hu with hu
        rw [← hu, ← Nat.add_assoc]
        exact g2
    · obtain ⟨i, hi, rfl⟩ := List.getElem_of_mem hc
      exact (hcell i _ (List.getElem?_eq_getElem hi)).1
theorem open_cc {fuel : Nat} {v : Value} {x : DataW H × List MemPlace} (h : DataW.trod enc Try.prog w base spare held fuel 52 [v] = some x) :
    ∃ A n cap ts, v = .slice A n cap ∧ IsCC w A n cap ts := by
  rcases open_slice Try.underlying52 h with ⟨hcs, _⟩ | ⟨a, len, cap, m, n, D, Pl, hcs, _, hl, hm, hmm, _, hel⟩
  · simp at hcs
    exact ⟨none, 0, 0, [], hcs, ⟨rfl, [], ⟨rfl, Nat.le_refl _, by simp [maxLen], fun h => absurd h (by omega)⟩, by simp⟩⟩
  · simp at hcs
    subst hcs
    have hlm : len ≤ m := by rw [hmm]; split <;> omega
    have key : ∀ i, i < len → ∃ c : Value × List C, w.cell? (a.add i) = some c.1 ∧ ∃ A' n' cap', c.1 = .slice A' n' cap' ∧ IsC w A' n' cap' c.2 := by
      intro i hi
      obtain ⟨cs', hc, ht'⟩ := hel i (by omega)
      rw [cellsCs] at hc
      obtain ⟨_, hcl, hat⟩ := World.cells?_some hc
      match cs', hcl with
      | [u], _ =>
        have hcell := hat 0 (by omega)
        obtain ⟨A', n', cap', cs, rfl, hcs⟩ := open_cells ht'
        exact ⟨(_, cs), by simpa [Addr.add] using hcell, _, _, _, rfl, hcs⟩
    obtain ⟨ps, hlen, hps⟩ := build_list _ len key
    refine ⟨some a, len, cap, ps.map (·.2), rfl, by simp [hlen], ps.map (·.1), ⟨by simp [hlen], hl, hm, fun hn => ?_⟩, fun i t hi => ?_⟩
    · obtain ⟨b, off, spot⟩ := a
      obtain ⟨c, hc⟩ : ∃ c, ps[0]? = some c := ⟨_, List.getElem?_eq_getElem (by omega)⟩
      have h0 := (hps 0 c hc).1
      have hs : spot = none := by simpa [Addr.add] using spot_none h0
      subst hs
      refine ⟨b, off, rfl, World.block_lt_of_cell? w _ h0, fun j u hu => ?_⟩
      rw [List.getElem?_map] at hu
      obtain ⟨q, hq, rfl⟩ := Option.map_eq_some_iff.1 hu
      have g := (hps j q hq).1
      have hadd : (⟨b, off, none⟩ : Addr).add j = ⟨b, off + j, none⟩ := by unfold Addr.add; split <;> simp_all
      rwa [hadd] at g
    · rw [List.getElem?_map] at hi
      obtain ⟨q, hq, rfl⟩ := Option.map_eq_some_iff.1 hi
      obtain ⟨_, A', n', cap', h1, h2⟩ := hps i q hq
      exact ⟨A', n', cap', by rw [List.getElem?_map, hq]; exact congrArg some h1, h2⟩
end
end Go.Proofs.Ytdeaeiolehglaaa
