/- Clauses, and rows of instructions, that came in as arguments, opened. -/
import Derived.ChangeArms
import Derived.Test.YtdeaeiolehglaaaOpen
import Derived.Test.YtdeaeiolehglaaaVoc10
set_option linter.unusedVariables false
set_option linter.unusedSimpArgs false
namespace Go.Proofs.Ytdeaeiolehglaaa
open Go.RowKit Go.ChangeShapes Go.WideShapes Go.Deep Go.Joins

section
variable {H : Type} {enc : TypeId × Value → H} {w : World} {base : Nat} {spare : Nat → Bool} {held : Bool}
theorem open_row {t e : TypeId} (ht : Try.prog.underlying t = some (.slice e)) {k : Nat} (hke : Try.prog.cellsOf e = k) (hp : 0 < k) {fuel : Nat} {v : Value} {x : DataW H × List MemPlace} (h : DataW.trod enc Try.prog w base spare held fuel t [v] = some x) :
    ∃ (A : Option Addr) (n cap : Nat) (vs : List (List Value)), v = .slice A n cap ∧ vs.length = n ∧ (∀ u ∈ vs, u.length = k) ∧ Sl w k A n cap vs.flatten ∧ ∀ (i : Nat) (u : List Value), vs[i]? = some u → ∃ (n' : Nat) (z : DataW H × List MemPlace), DataW.trod enc Try.prog w base spare held n' e u = some z := by
  rcases open_slice ht h with ⟨hcs, _⟩ | ⟨a, len, cap, m, n, D, Pl, hcs, _, hl, hm, hmm, _, hel⟩
  · simp at hcs
    exact ⟨none, 0, 0, [], hcs, rfl, by simp, ⟨by simp, Nat.le_refl _, by simp [maxLen], fun h => absurd h (by omega)⟩, by simp⟩
  · simp at hcs
    subst hcs
    have hlm : len ≤ m := by rw [hmm]; split <;> omega
    have key : ∀ i, i < len → ∃ u : List Value, u.length = k ∧ (∀ j c, u[j]? = some c → w.cell? ((a.add (i * k)).add j) = some c) ∧ ∃ (n' : Nat) (z : DataW H × List MemPlace), DataW.trod enc Try.prog w base spare held n' e u = some z := by
      intro i hi
      obtain ⟨cs', hc, ht'⟩ := hel i (by omega)
      rw [hke] at hc
      obtain ⟨_, hcl, hat⟩ := World.cells?_some hc
      refine ⟨cs', hcl, fun j c hj => ?_, _, _, ht'⟩
      have hjl : j < k := by have := (List.getElem?_eq_some_iff.1 hj).1; omega
      rw [← hj]
      exact hat j hjl
    obtain ⟨vs, hlen, hvs⟩ := build_list _ len key
    have hk : ∀ u ∈ vs, u.length = k := fun u hu => by
      obtain ⟨i, hi, rfl⟩ := List.getElem_of_mem hu
      exact (hvs i _ (List.getElem?_eq_getElem hi)).1
    refine ⟨some a, len, cap, vs, rfl, hlen, hk, ⟨by rw [flatten_len hk, hlen], hl, hm, fun hn => ?_⟩, fun i u hu => (hvs i u hu).2.2⟩
    obtain ⟨b, off, spot⟩ := a
    obtain ⟨u0, hu0⟩ : ∃ u, vs[0]? = some u := ⟨_, List.getElem?_eq_getElem (by omega)⟩
    obtain ⟨h01, h02, _⟩ := hvs 0 u0 hu0
    obtain ⟨c0, hc0⟩ : ∃ c, u0[0]? = some c := ⟨_, List.getElem?_eq_getElem (by omega)⟩
    have h0 := h02 0 c0 hc0
    have hs : spot = none := by simpa [Addr.add] using spot_none h0
    subst hs
    refine ⟨b, off, rfl, by simpa [Addr.add] using World.block_lt_of_cell? w _ h0, fun j u hu => ?_⟩
    have hadd : ∀ o q, (⟨b, o, none⟩ : Addr).add q = ⟨b, o + q, none⟩ := fun o q => by unfold Addr.add; split <;> simp_all
    have hjl : j < vs.length * k := by
      have := (List.getElem?_eq_some_iff.1 hu).1
      rwa [flatten_len hk] at this
    have hdiv : j / k < vs.length := (Nat.div_lt_iff_lt_mul hp).2 hjl
    have hmod : j % k < k := Nat.mod_lt _ hp
    have hjk : j / k * k + j % k = j := Nat.div_add_mod' j k
    obtain ⟨vi, hvi⟩ : ∃ vi, vs[j / k]? = some vi := ⟨_, List.getElem?_eq_getElem hdiv⟩
    obtain ⟨g1, g2, _⟩ := hvs _ vi hvi
    obtain ⟨c, hc⟩ : ∃ c, vi[j % k]? = some c := ⟨_, List.getElem?_eq_getElem (by omega)⟩
    have g3 := g2 _ c hc
    have g4 := flatten_get hk hvi hc
    rw [hjk, hu] at g4
    have g4 := Option.some.inj g4
    rw [hadd, hadd, Nat.add_assoc, hjk] at g3
    rw [g3, g4]
theorem struct_get {e : TypeId} (hf : Try.prog.underlying e = some (.struct (Try.prog.fieldsOf e))) (hone : oneCellFields Try.prog (Try.prog.fieldsOf e) = true) {n k : Nat} {u : List Value} {z : DataW H × List MemPlace} (hs : (Try.prog.fieldsOf e).size = k) (hu : u.length = k)
    (h : DataW.trod enc Try.prog w base spare held n e u = some z) : ∀ (j : Nat) (t : TypeId), ((Try.prog.fieldsOf e)[j]?).map (·.type) = some t → ∃ n' y c, u[j]? = some c ∧ DataW.trod enc Try.prog w base spare held n' t [c] = some y := by
  intro j t hj
  obtain ⟨ys, n', hn', hy, hlen, hyl, hff⟩ := DataW.trod_struct hf h
  obtain ⟨f, hj', hft⟩ := Option.map_eq_some_iff.1 hj
  subst hft
  obtain ⟨ho, hk⟩ := hone_of hone j f hj'
  have hjl : j < (Try.prog.fieldsOf e).size := (Array.getElem?_eq_some_iff.1 hj').1
  have h1 := hff j f hj'
  rw [ho, hk] at h1
  have hone' : (u.drop j).take 1 = [u[j]'(by omega)] := by
    rw [List.drop_eq_getElem_cons (by omega)]
    rfl
  rw [hone'] at h1
  have hys : ys[j]? = some (ys[j]'(by rw [hyl]; exact hjl)) := List.getElem?_eq_getElem _
  exact ⟨_, _, _, List.getElem?_eq_getElem (by omega), h1.trans hys⟩
theorem fieldsI : Try.prog.underlying 48 = some (.struct (Try.prog.fieldsOf 48)) := by kernel_rfl
theorem fieldsL : Try.prog.underlying 55 = some (.struct (Try.prog.fieldsOf 55)) := by kernel_rfl
theorem open_instrs {fuel : Nat} {v : Value} {x : DataW H × List MemPlace} (h : DataW.trod enc Try.prog w base spare held fuel 26 [v] = some x) : ∃ A n cap l, v = .slice A n cap ∧ IsK w A n cap l := by
  obtain ⟨A, n, cap, vs, rfl, h1, h2, h3, h4⟩ := open_row (k := 6) (e := 48) Try.underlying26 (by kernel_rfl) (by omega) h
  have key : ∀ i, i < n → ∃ c : In, ∃ u, vs[i]? = some u ∧ u = c.flat ∧ c.wf := by
    intro i hi
    obtain ⟨u, hu⟩ : ∃ u, vs[i]? = some u := ⟨_, List.getElem?_eq_getElem (by omega)⟩
    obtain ⟨n', z, hz⟩ := h4 i u hu
    have hl := h2 u (List.mem_of_getElem? hu)
    have get := struct_get fieldsI (by kernel_rfl) (k := 6) (by kernel_rfl) hl hz
    obtain ⟨_, _, c0, g0, t0⟩ := get 0 3 (by kernel_rfl)
    obtain ⟨_, _, c1, g1, t1⟩ := get 1 3 (by kernel_rfl)
    obtain ⟨_, _, c2, g2, t2⟩ := get 2 3 (by kernel_rfl)
    obtain ⟨_, _, c3, g3, t3⟩ := get 3 9 (by kernel_rfl)
    obtain ⟨_, _, c4, g4, t4⟩ := get 4 3 (by kernel_rfl)
    obtain ⟨_, _, c5, g5, t5⟩ := get 5 4 (by kernel_rfl)
    obtain ⟨k0, e0, _, w0⟩ := DataW.trod_int Try.underlying3 t0
    obtain ⟨k1, e1, _, w1⟩ := DataW.trod_int Try.underlying3 t1
    obtain ⟨k2, e2, _, w2⟩ := DataW.trod_int Try.underlying3 t2
    obtain ⟨k3, e3, _, w3⟩ := DataW.trod_string Try.underlying9 t3
    obtain ⟨k4, e4, _, w4⟩ := DataW.trod_int Try.underlying3 t4
    obtain ⟨k5, e5, _⟩ := DataW.trod_bool Try.underlying4 t5
    simp at e0 e1 e2 e3 e4 e5
    subst e0 e1 e2 e3 e4 e5
    refine ⟨⟨k0, k1, k2, k3, k4, k5⟩, u, hu, ?_, ⟨wf_i64 w0, wf_i64 w1, wf_i64 w2, wf_i64 w4, w3⟩⟩
    match u, hl with
    | [a0, a1, a2, a3, a4, a5], _ =>
      simp at g0 g1 g2 g3 g4 g5
      rw [g0, g1, g2, g3, g4, g5]
  obtain ⟨l, hll, hl⟩ := build_list _ n key
  exact ⟨A, n, cap, l, rfl, hll, vs, by omega, h2, h3, fun i x v hx hv => by
    obtain ⟨u, hu, hf, hw⟩ := hl i x hx
    rw [hv] at hu
    cases hu
    exact ⟨hf, hw⟩⟩
theorem open_lits {fuel : Nat} {v : Value} {x : DataW H × List MemPlace} (h : DataW.trod enc Try.prog w base spare held fuel 23 [v] = some x) : ∃ A n cap l, v = .slice A n cap ∧ IsLs w A n cap l := by
  obtain ⟨A, n, cap, vs, rfl, h1, h2, h3, h4⟩ := open_row (k := 2) (e := 55) Try.underlying23 (by kernel_rfl) (by omega) h
  have key : ∀ i, i < n → ∃ c : Bool × List C, ∃ u, vs[i]? = some u ∧ RLit w c u := by
    intro i hi
    obtain ⟨u, hu⟩ : ∃ u, vs[i]? = some u := ⟨_, List.getElem?_eq_getElem (by omega)⟩
    obtain ⟨n', z, hz⟩ := h4 i u hu
    have hl := h2 u (List.mem_of_getElem? hu)
    have get := struct_get fieldsL (by kernel_rfl) (k := 2) (by kernel_rfl) hl hz
    obtain ⟨_, _, c0, g0, t0⟩ := get 0 4 (by kernel_rfl)
    obtain ⟨_, _, c1, g1, t1⟩ := get 1 22 (by kernel_rfl)
    obtain ⟨k0, e0, _⟩ := DataW.trod_bool Try.underlying4 t0
    obtain ⟨A', n'', c', cs, e1, hcs⟩ := open_cells t1
    simp at e0
    subst e0 e1
    refine ⟨(k0, cs), u, hu, A', n'', c', ?_, hcs⟩
    match u, hl with
    | [a0, a1], _ =>
      simp at g0 g1
      rw [g0, g1]
  obtain ⟨l, hll, hl⟩ := build_list _ n key
  exact ⟨A, n, cap, l, rfl, hll, vs, by omega, h2, h3, fun i x v hx hv => by
    obtain ⟨u, hu, hr⟩ := hl i x hx
    rw [hv] at hu
    cases hu
    exact hr⟩
set_option maxRecDepth 100000 in
theorem open_clause {r : Reach} {b0 : Nat} {v : Value} {d : DataW H} {p : List MemPlace} (hv : Value.okWide Try.prog w r b0 25 v) (h : DataW.Trod enc Try.prog w base spare held 25 v d p) :
    ∃ A n c t B m e b, v = .agg #[.slice A n c, .slice B m e] ∧ IsC w A n c t ∧ IsLs w B m e b := by
  obtain ⟨v0, v1, y0, y1, n, rfl, _, _, h0, h1⟩ := open_agg2 Try.underlying25 (by kernel_rfl) (by kernel_rfl) hv h
  obtain ⟨A, n', c, t, rfl, ht⟩ := open_cells h0
  obtain ⟨B, m, e, b, rfl, hb⟩ := open_lits h1
  exact ⟨A, n', c, t, B, m, e, b, rfl, ht, hb⟩
end
end Go.Proofs.Ytdeaeiolehglaaa
