/- Texts of this proof that belong together: words of memory, plain laws, short walks. -/
import Derived.Test.YtlndjooddkjnoaaRows
import Derived.Test.YtlndjooddkjnoaaB0
import Derived.ProofKit
import Derived.OpenShut
import Derived.ShutString
import Derived.ChangeOld
import Derived.Deep.Slices
import Derived.Deep.Fields
import Derived.ChangeSame
import Derived.Lib.SmallJoins
import Derived.ChangeArms
set_option linter.unusedVariables false
set_option linter.unusedSimpArgs false
/- The arguments of a law, opened: a slice of cells that came in reads as a list of cells; and so on. -/
namespace Go.Proofs.Ytlndjooddkjnoaa
open Go.RowKit Go.ChangeShapes Go.WideShapes Go.Deep

theorem fieldsC : Try.prog.underlying 54 = some (.struct (Try.prog.fieldsOf 54)) := by kernel_rfl
theorem fieldC0 : ((Try.prog.fieldsOf 54)[0]?).map (·.type) = some 3 := by kernel_rfl
theorem fieldC1 : ((Try.prog.fieldsOf 54)[1]?).map (·.type) = some 9 := by kernel_rfl
theorem fieldC2 : ((Try.prog.fieldsOf 54)[2]?).map (·.type) = some 3 := by kernel_rfl
theorem fieldC3 : (Try.prog.fieldsOf 54).size = 3 := by kernel_rfl
theorem cellsC : Try.prog.cellsOf 54 = 3 := by kernel_rfl
theorem cellsCs : Try.prog.cellsOf 26 = 1 := by kernel_rfl
theorem oneFieldsC : oneCellFields Try.prog (Try.prog.fieldsOf 54) = true := by kernel_rfl

theorem wf_i64 {n : Int} (h : (Lit.int .i64 n).wf = true) : i64 n := by
  simp [Lit.wf, IntKind.min, IntKind.max, IntKind.signed, IntKind.bits] at h
  unfold i64
  omega
theorem spot_none {w : World} {a : Addr} {v : Value} (h : w.cell? a = some v) : a.spot = none := World.cell?_spot h

theorem build_list {α : Type} (Pr : Nat → α → Prop) : ∀ n : Nat, (∀ i, i < n → ∃ c, Pr i c) → ∃ cs : List α, cs.length = n ∧ ∀ (i : Nat) (c : α), cs[i]? = some c → Pr i c := by
  intro n
  induction n with
  | zero => intro _; exact ⟨[], rfl, by simp⟩
  | succ n ih =>
    intro key
    obtain ⟨cs, h1, h2⟩ := ih (fun i hi => key i (by omega))
    obtain ⟨c, hc⟩ := key n (by omega)
    refine ⟨cs ++ [c], by simp [h1], fun i d hd => ?_⟩
    rw [List.getElem?_append] at hd
    split at hd
    · exact h2 i d hd
    · rename_i hi
      have : i = cs.length := by
        have := (List.getElem?_eq_some_iff.1 hd).1
        simp at this
        omega
      subst this
      simp at hd
      subst hd
      rw [h1]
      exact hc
section
variable {H : Type} {enc : TypeId × Value → H} {w : World} {base : Nat} {spare : Nat → Bool} {held : Bool}
theorem open_cells {fuel : Nat} {v : Value} {x : DataW H × List MemPlace} (h : DataW.trod enc Try.prog w base spare held fuel 26 [v] = some x) :
    ∃ A n cap cs, v = .slice A n cap ∧ IsC w A n cap cs := by
  rcases open_slice Try.underlying26 h with ⟨hcs, _⟩ | ⟨a, len, cap, m, n, D, Pl, hcs, _, hl, hm, hmm, _, hel⟩
  · simp at hcs
    exact ⟨none, 0, 0, [], hcs, IsC.nil w none 0 (by simp [maxLen])⟩
  · simp at hcs
    subst hcs
    have hlm : len ≤ m := by rw [hmm]; split <;> omega
    have key : ∀ i, i < len → ∃ c : C, c.wf ∧ w.cell? (a.add (i * 3)) = some (.int .i64 c.kind) ∧ w.cell? ((a.add (i * 3)).add 1) = some (.string c.name) ∧ w.cell? ((a.add (i * 3)).add 2) = some (.int .i64 c.n) := by
      intro i hi
      obtain ⟨cs', hc, ht'⟩ := hel i (by omega)
      rw [cellsC] at hc
      obtain ⟨ys, n', hn', hy, hlen, hyl, hf⟩ := DataW.trod_struct fieldsC ht'
      obtain ⟨_, hcl, hat⟩ := World.cells?_some hc
      have get : ∀ (j : Nat) (t : TypeId), ((Try.prog.fieldsOf 54)[j]?).map (·.type) = some t → ∃ u z, w.cell? ((a.add (i * 3)).add j) = some u ∧ DataW.trod enc Try.prog w base spare held n' t [u] = some z := by
        intro j t hj
        obtain ⟨f, hj', hft⟩ := Option.map_eq_some_iff.1 hj
        subst hft
        clear hj
        have hj := hj'
        obtain ⟨ho, hk⟩ := hone_of oneFieldsC j f hj
        have hjl : j < (Try.prog.fieldsOf 54).size := (Array.getElem?_eq_some_iff.1 hj).1
        rw [fieldC3] at hjl
        have hcell := hat j hjl
        have h1 := hf j f hj
        rw [ho, hk] at h1
        have hone' : (cs'.drop j).take 1 = [cs'[j]'(by omega)] := by
          rw [List.drop_eq_getElem_cons (by omega)]
          rfl
        rw [hone'] at h1
        have hys : ys[j]? = some (ys[j]'(by rw [hyl, fieldC3]; exact hjl)) := List.getElem?_eq_getElem _
        rw [List.getElem?_eq_getElem (by omega)] at hcell
        exact ⟨_, _, hcell, h1.trans hys⟩
      obtain ⟨u0, z0, c0, t0⟩ := get 0 _ fieldC0
      obtain ⟨u1, z1, c1, t1⟩ := get 1 _ fieldC1
      obtain ⟨u2, z2, c2, t2⟩ := get 2 _ fieldC2
      obtain ⟨k, e0, _, w0⟩ := DataW.trod_int Try.underlying3 t0
      obtain ⟨s, e1, _, w1⟩ := DataW.trod_string Try.underlying9 t1
      obtain ⟨q, e2, _, w2⟩ := DataW.trod_int Try.underlying3 t2
      simp at e0 e1 e2
      subst e0 e1 e2
      exact ⟨⟨k, s, q⟩, ⟨wf_i64 w0, wf_i64 w2, w1⟩, by simpa [Addr.add] using c0, c1, c2⟩
    have hcs := build_list _ len key
    obtain ⟨cs, hlen, hcell⟩ := hcs
    refine ⟨some a, len, cap, cs, rfl, ⟨by rw [flatC_len, hlen], hl, hm, fun hn => ?_⟩, fun c hc => ?_⟩
    · obtain ⟨b, off, spot⟩ := a
      obtain ⟨c, hc⟩ : ∃ c, cs[0]? = some c := ⟨_, List.getElem?_eq_getElem (by omega)⟩
      have h0 := (hcell 0 c hc).2.1
      have hs : spot = none := by simpa [Addr.add] using spot_none h0
      subst hs
      refine ⟨b, off, rfl, World.block_lt_of_cell? w _ h0, fun j u hu => ?_⟩
      have hadd : ∀ k, (⟨b, off, none⟩ : Addr).add k = ⟨b, off + k, none⟩ := fun k => by unfold Addr.add; split <;> simp_all
      have hadd' : ∀ o k, (⟨b, o, none⟩ : Addr).add k = ⟨b, o + k, none⟩ := fun o k => by unfold Addr.add; split <;> simp_all
      have hjl : j < cs.length * 3 := by
        have := (List.getElem?_eq_some_iff.1 hu).1
        rwa [flatC_len] at this
      obtain ⟨q, hq⟩ : ∃ q, cs[j / 3]? = some q := ⟨_, List.getElem?_eq_getElem (by omega)⟩
      obtain ⟨_, g0, g1, g2⟩ := hcell _ q hq
      obtain ⟨f0, f1, f2⟩ := flatC_get cs (j / 3) q hq
      rw [hadd] at g0 g1 g2
      rw [hadd'] at g1 g2
      have hm3 : j % 3 = 0 ∨ j % 3 = 1 ∨ j % 3 = 2 := by omega
      rcases hm3 with hm3 | hm3 | hm3
      · have e : j = j / 3 * 3 := by omega
        rw [e] at hu ⊢
        rw [f0] at hu
        injection hu with hu
        rw [← hu]
        exact g0
      · have e : j = j / 3 * 3 + 1 := by omega
        rw [e] at hu ⊢
        rw [f1] at hu
        injection hu with hu
        rw [← hu, ← Nat.add_assoc]
        exact g1
      · have e : j = j / 3 * 3 + 2 := by omega
        rw [e] at hu ⊢
        rw [f2] at hu
        injection hu with hu
        rw [← hu, ← Nat.add_assoc]
        exact g2
    · obtain ⟨i, hi, rfl⟩ := List.getElem_of_mem hc
      exact (hcell i _ (List.getElem?_eq_getElem hi)).1
theorem open_cc {fuel : Nat} {v : Value} {x : DataW H × List MemPlace} (h : DataW.trod enc Try.prog w base spare held fuel 110 [v] = some x) :
    ∃ A n cap ts, v = .slice A n cap ∧ IsCC w A n cap ts := by
  rcases open_slice Try.underlying110 h with ⟨hcs, _⟩ | ⟨a, len, cap, m, n, D, Pl, hcs, _, hl, hm, hmm, _, hel⟩
  · simp at hcs
    exact ⟨none, 0, 0, [], hcs, ⟨rfl, [], ⟨rfl, Nat.le_refl _, by simp [maxLen], fun h => absurd h (by omega)⟩, by simp⟩⟩
  · simp at hcs
    subst hcs
    have hlm : len ≤ m := by rw [hmm]; split <;> omega
    have key : ∀ i, i < len → ∃ c : Value × List C, w.cell? (a.add i) = some c.1 ∧ ∃ A' n' cap', c.1 = .slice A' n' cap' ∧ IsC w A' n' cap' c.2 := by
      intro i hi
      obtain ⟨cs', hc, ht'⟩ := hel i (by omega)
      rw [cellsCs] at hc
      obtain ⟨_, hcl, hat⟩ := World.cells?_some hc
      match cs', hcl with
      | [u], _ =>
        have hcell := hat 0 (by omega)
        obtain ⟨A', n', cap', cs, rfl, hcs⟩ := open_cells ht'
        exact ⟨(_, cs), by simpa [Addr.add] using hcell, _, _, _, rfl, hcs⟩
    obtain ⟨ps, hlen, hps⟩ := build_list _ len key
    refine ⟨some a, len, cap, ps.map (·.2), rfl, by simp [hlen], ps.map (·.1), ⟨by simp [hlen], hl, hm, fun hn => ?_⟩, fun i t hi => ?_⟩
    · obtain ⟨b, off, spot⟩ := a
      obtain ⟨c, hc⟩ : ∃ c, ps[0]? = some c := ⟨_, List.getElem?_eq_getElem (by omega)⟩
      have h0 := (hps 0 c hc).1
      have hs : spot = none := by simpa [Addr.add] using spot_none h0
      subst hs
      refine ⟨b, off, rfl, World.block_lt_of_cell? w _ h0, fun j u hu => ?_⟩
      rw [List.getElem?_map] at hu
      obtain ⟨q, hq, rfl⟩ := Option.map_eq_some_iff.1 hu
      have g := (hps j q hq).1
      have hadd : (⟨b, off, none⟩ : Addr).add j = ⟨b, off + j, none⟩ := by unfold Addr.add; split <;> simp_all
      rwa [hadd] at g
    · rw [List.getElem?_map] at hi
      obtain ⟨q, hq, rfl⟩ := Option.map_eq_some_iff.1 hi
      obtain ⟨_, A', n', cap', h1, h2⟩ := hps i q hq
      exact ⟨A', n', cap', by rw [List.getElem?_map, hq]; exact congrArg some h1, h2⟩
end
end Go.Proofs.Ytlndjooddkjnoaa

/- Heaps, acts and rows of them that came in as arguments, opened. -/
namespace Go.Proofs.Ytlndjooddkjnoaa
open Go.RowKit Go.ChangeShapes Go.WideShapes Go.Deep Go.Joins

/-- an act: a term, and two places -/
structure Opr where
  t : List C
  a : Int
  b : Int
def ROp : World → Opr → List Value → Prop := fun w o v => ∃ A n c, v = [.slice A n c, .int .i64 o.a, .int .i64 o.b] ∧ IsC w A n c o.t ∧ i64 o.a ∧ i64 o.b
theorem keepsOp : Keeps ROp := fun _ _ _ _ ⟨A, n, c, h1, h2, h3⟩ hb => ⟨A, n, c, h1, h2.below hb, h3⟩
abbrev IsOps (w : World) (A : Option Addr) (n cap : Nat) (l : List Opr) : Prop := IsG ROp 3 w A n cap l
section
variable {H : Type} {enc : TypeId × Value → H} {w : World} {base : Nat} {spare : Nat → Bool} {held : Bool}
theorem open_row {t e : TypeId} (ht : Try.prog.underlying t = some (.slice e)) {k : Nat} (hke : Try.prog.cellsOf e = k) (hp : 0 < k) {fuel : Nat} {v : Value} {x : DataW H × List MemPlace} (h : DataW.trod enc Try.prog w base spare held fuel t [v] = some x) :
    ∃ (A : Option Addr) (n cap : Nat) (vs : List (List Value)), v = .slice A n cap ∧ vs.length = n ∧ (∀ u ∈ vs, u.length = k) ∧ Sl w k A n cap vs.flatten ∧ ∀ (i : Nat) (u : List Value), vs[i]? = some u → ∃ (n' : Nat) (z : DataW H × List MemPlace), DataW.trod enc Try.prog w base spare held n' e u = some z := by
  rcases open_slice ht h with ⟨hcs, _⟩ | ⟨a, len, cap, m, n, D, Pl, hcs, _, hl, hm, hmm, _, hel⟩
  · simp at hcs
    exact ⟨none, 0, 0, [], hcs, rfl, by simp, ⟨by simp, Nat.le_refl _, by simp [maxLen], fun h => absurd h (by omega)⟩, by simp⟩
  · simp at hcs
    subst hcs
    have hlm : len ≤ m := by rw [hmm]; split <;> omega
    have key : ∀ i, i < len → ∃ u : List Value, u.length = k ∧ (∀ j c, u[j]? = some c → w.cell? ((a.add (i * k)).add j) = some c) ∧ ∃ (n' : Nat) (z : DataW H × List MemPlace), DataW.trod enc Try.prog w base spare held n' e u = some z := by
      intro i hi
      obtain ⟨cs', hc, ht'⟩ := hel i (by omega)
      rw [hke] at hc
      obtain ⟨_, hcl, hat⟩ := World.cells?_some hc
      refine ⟨cs', hcl, fun j c hj => ?_, _, _, ht'⟩
      have hjl : j < k := by have := (List.getElem?_eq_some_iff.1 hj).1; omega
      rw [← hj]
      exact hat j hjl
    obtain ⟨vs, hlen, hvs⟩ := build_list _ len key
    have hk : ∀ u ∈ vs, u.length = k := fun u hu => by
      obtain ⟨i, hi, rfl⟩ := List.getElem_of_mem hu
      exact (hvs i _ (List.getElem?_eq_getElem hi)).1
    refine ⟨some a, len, cap, vs, rfl, hlen, hk, ⟨by rw [flatten_len hk, hlen], hl, hm, fun hn => ?_⟩, fun i u hu => (hvs i u hu).2.2⟩
    obtain ⟨b, off, spot⟩ := a
    obtain ⟨u0, hu0⟩ : ∃ u, vs[0]? = some u := ⟨_, List.getElem?_eq_getElem (by omega)⟩
    obtain ⟨h01, h02, _⟩ := hvs 0 u0 hu0
    obtain ⟨c0, hc0⟩ : ∃ c, u0[0]? = some c := ⟨_, List.getElem?_eq_getElem (by omega)⟩
    have h0 := h02 0 c0 hc0
    have hs : spot = none := by simpa [Addr.add] using spot_none h0
    subst hs
    refine ⟨b, off, rfl, by simpa [Addr.add] using World.block_lt_of_cell? w _ h0, fun j u hu => ?_⟩
    have hadd : ∀ o q, (⟨b, o, none⟩ : Addr).add q = ⟨b, o + q, none⟩ := fun o q => by unfold Addr.add; split <;> simp_all
    have hjl : j < vs.length * k := by
      have := (List.getElem?_eq_some_iff.1 hu).1
      rwa [flatten_len hk] at this
    have hdiv : j / k < vs.length := (Nat.div_lt_iff_lt_mul hp).2 hjl
    have hmod : j % k < k := Nat.mod_lt _ hp
    have hjk : j / k * k + j % k = j := Nat.div_add_mod' j k
    obtain ⟨vi, hvi⟩ : ∃ vi, vs[j / k]? = some vi := ⟨_, List.getElem?_eq_getElem hdiv⟩
    obtain ⟨g1, g2, _⟩ := hvs _ vi hvi
    obtain ⟨c, hc⟩ : ∃ c, vi[j % k]? = some c := ⟨_, List.getElem?_eq_getElem (by omega)⟩
    have g3 := g2 _ c hc
    have g4 := flatten_get hk hvi hc
    rw [hjk, hu] at g4
    have g4 := Option.some.inj g4
    rw [hadd, hadd, Nat.add_assoc, hjk] at g3
    rw [g3, g4]
theorem struct_get {e : TypeId} (hf : Try.prog.underlying e = some (.struct (Try.prog.fieldsOf e))) (hone : oneCellFields Try.prog (Try.prog.fieldsOf e) = true) {n k : Nat} {u : List Value} {z : DataW H × List MemPlace} (hs : (Try.prog.fieldsOf e).size = k) (hu : u.length = k)
    (h : DataW.trod enc Try.prog w base spare held n e u = some z) : ∀ (j : Nat) (t : TypeId), ((Try.prog.fieldsOf e)[j]?).map (·.type) = some t → ∃ n' y c, u[j]? = some c ∧ DataW.trod enc Try.prog w base spare held n' t [c] = some y := by
  intro j t hj
  obtain ⟨ys, n', hn', hy, hlen, hyl, hff⟩ := DataW.trod_struct hf h
  obtain ⟨f, hj', hft⟩ := Option.map_eq_some_iff.1 hj
  subst hft
  obtain ⟨ho, hk⟩ := hone_of hone j f hj'
  have hjl : j < (Try.prog.fieldsOf e).size := (Array.getElem?_eq_some_iff.1 hj').1
  have h1 := hff j f hj'
  rw [ho, hk] at h1
  have hone' : (u.drop j).take 1 = [u[j]'(by omega)] := by
    rw [List.drop_eq_getElem_cons (by omega)]
    rfl
  rw [hone'] at h1
  have hys : ys[j]? = some (ys[j]'(by rw [hyl]; exact hjl)) := List.getElem?_eq_getElem _
  exact ⟨_, _, _, List.getElem?_eq_getElem (by omega), h1.trans hys⟩
theorem fieldsS : Try.prog.underlying 68 = some (.struct (Try.prog.fieldsOf 68)) := by kernel_rfl
theorem fieldsO : Try.prog.underlying 28 = some (.struct (Try.prog.fieldsOf 28)) := by kernel_rfl
theorem open_slots {fuel : Nat} {v : Value} {x : DataW H × List MemPlace} (h : DataW.trod enc Try.prog w base spare held fuel 22 [v] = some x) : ∃ A n cap l, v = .slice A n cap ∧ IsC w A n cap l := by
  obtain ⟨A, n, cap, vs, rfl, h1, h2, h3, h4⟩ := open_row (k := 3) (e := 68) Try.underlying22 (by kernel_rfl) (by omega) h
  have key : ∀ i, i < n → ∃ c : C, vs[i]? = some c.flat ∧ c.wf := by
    intro i hi
    obtain ⟨u, hu⟩ : ∃ u, vs[i]? = some u := ⟨_, List.getElem?_eq_getElem (by omega)⟩
    obtain ⟨n', z, hz⟩ := h4 i u hu
    have hl := h2 u (List.mem_of_getElem? hu)
    have get := struct_get fieldsS (by kernel_rfl) (k := 3) (by kernel_rfl) hl hz
    obtain ⟨_, _, c0, g0, t0⟩ := get 0 3 (by kernel_rfl)
    obtain ⟨_, _, c1, g1, t1⟩ := get 1 9 (by kernel_rfl)
    obtain ⟨_, _, c2, g2, t2⟩ := get 2 3 (by kernel_rfl)
    obtain ⟨k0, e0, _, w0⟩ := DataW.trod_int Try.underlying3 t0
    obtain ⟨k1, e1, _, w1⟩ := DataW.trod_string Try.underlying9 t1
    obtain ⟨k2, e2, _, w2⟩ := DataW.trod_int Try.underlying3 t2
    simp at e0 e1 e2
    subst e0 e1 e2
    refine ⟨⟨k0, k1, k2⟩, ?_, ⟨wf_i64 w0, wf_i64 w2, w1⟩⟩
    rw [hu]
    match u, hl with
    | [a0, a1, a2], _ =>
      simp at g0 g1 g2
      rw [g0, g1, g2]; rfl
  obtain ⟨l, hll, hl⟩ := build_list _ n key
  have hvs : vs = l.map C.flat := by
    apply List.ext_getElem?
    intro i
    rw [List.getElem?_map]
    by_cases hi : i < n
    · have hx := List.getElem?_eq_getElem (l := l) (i := i) (by omega)
      rw [hx, (hl i _ hx).1]; rfl
    · rw [List.getElem?_eq_none (by omega), List.getElem?_eq_none (by omega)]; rfl
  refine ⟨A, n, cap, l, rfl, ?_, fun c hc => ?_⟩
  · rw [hvs] at h3
    exact h3
  · obtain ⟨i, hi, rfl⟩ := List.getElem_of_mem hc
    exact (hl i _ (List.getElem?_eq_getElem hi)).2
theorem open_ints8 {fuel : Nat} {v : Value} {x : DataW H × List MemPlace} (h : DataW.trod enc Try.prog w base spare held fuel 23 [v] = some x) : ∃ A n cap l, v = .slice A n cap ∧ IsI w A n cap l := by
  obtain ⟨A, n, cap, vs, rfl, h1, h2, h3, h4⟩ := open_row (k := 1) (e := 3) Try.underlying23 (by kernel_rfl) (by omega) h
  have key : ∀ i, i < n → ∃ c : Int, vs[i]? = some [.int .i64 c] ∧ i64 c := by
    intro i hi
    obtain ⟨u, hu⟩ : ∃ u, vs[i]? = some u := ⟨_, List.getElem?_eq_getElem (by omega)⟩
    obtain ⟨n', z, hz⟩ := h4 i u hu
    have hl := h2 u (List.mem_of_getElem? hu)
    match u, hl with
    | [a0], _ =>
      obtain ⟨k0, e0, _, w0⟩ := DataW.trod_int Try.underlying3 hz
      simp at e0
      subst e0
      exact ⟨k0, hu, wf_i64 w0⟩
  obtain ⟨l, hll, hl⟩ := build_list _ n key
  have hvs : vs = l.map fun c => [.int .i64 c] := by
    apply List.ext_getElem?
    intro i
    rw [List.getElem?_map]
    by_cases hi : i < n
    · have hx := List.getElem?_eq_getElem (l := l) (i := i) (by omega)
      rw [hx, (hl i _ hx).1]; rfl
    · rw [List.getElem?_eq_none (by omega), List.getElem?_eq_none (by omega)]; rfl
  refine ⟨A, n, cap, l, rfl, ?_, fun c hc => ?_⟩
  · have : vs.flatten = l.map (Value.int .i64) := by
      rw [hvs]
      clear hvs hl hll h1 h2 h3 h4
      induction l with
      | nil => rfl
      | cons a l ih => simp [ih]
    rw [this] at h3
    exact h3
  · obtain ⟨i, hi, rfl⟩ := List.getElem_of_mem hc
    exact (hl i _ (List.getElem?_eq_getElem hi)).2
theorem open_ops {fuel : Nat} {v : Value} {x : DataW H × List MemPlace} (h : DataW.trod enc Try.prog w base spare held fuel 63 [v] = some x) : ∃ A n cap l, v = .slice A n cap ∧ IsOps w A n cap l := by
  obtain ⟨A, n, cap, vs, rfl, h1, h2, h3, h4⟩ := open_row (k := 3) (e := 28) Try.underlying63 (by kernel_rfl) (by omega) h
  have key : ∀ i, i < n → ∃ c : Opr, ∃ u, vs[i]? = some u ∧ ROp w c u := by
    intro i hi
    obtain ⟨u, hu⟩ : ∃ u, vs[i]? = some u := ⟨_, List.getElem?_eq_getElem (by omega)⟩
    obtain ⟨n', z, hz⟩ := h4 i u hu
    have hl := h2 u (List.mem_of_getElem? hu)
    have get := struct_get fieldsO (by kernel_rfl) (k := 3) (by kernel_rfl) hl hz
    obtain ⟨_, _, c0, g0, t0⟩ := get 0 26 (by kernel_rfl)
    obtain ⟨_, _, c1, g1, t1⟩ := get 1 3 (by kernel_rfl)
    obtain ⟨_, _, c2, g2, t2⟩ := get 2 3 (by kernel_rfl)
    obtain ⟨A', n'', c', cs, e0, hcs⟩ := open_cells t0
    obtain ⟨k1, e1, _, w1⟩ := DataW.trod_int Try.underlying3 t1
    obtain ⟨k2, e2, _, w2⟩ := DataW.trod_int Try.underlying3 t2
    simp at e1 e2
    subst e0 e1 e2
    refine ⟨⟨cs, k1, k2⟩, u, hu, A', n'', c', ?_, hcs, wf_i64 w1, wf_i64 w2⟩
    match u, hl with
    | [a0, a1, a2], _ =>
      simp at g0 g1 g2
      rw [g0, g1, g2]
  obtain ⟨l, hll, hl⟩ := build_list _ n key
  exact ⟨A, n, cap, l, rfl, hll, vs, by omega, h2, h3, fun i x v hx hv => by
    obtain ⟨u, hu, hr⟩ := hl i x hx
    rw [hv] at hu
    cases hu
    exact hr⟩
set_option maxRecDepth 100000 in
theorem open_heap {r : Reach} {b0 : Nat} {v : Value} {d : DataW H} {p : List MemPlace} (hv : Value.okWide Try.prog w r b0 25 v) (h : DataW.Trod enc Try.prog w base spare held 25 v d p) :
    ∃ A n c l B m e tr x, v = .agg #[.slice A n c, .slice B m e, .int .i64 x] ∧ IsC w A n c l ∧ IsI w B m e tr ∧ i64 x := by
  obtain ⟨v0, v1, v2, y0, y1, y2, n, rfl, _, _, h0, h1, h2⟩ := open_agg3 Try.underlying25 (by kernel_rfl) (by kernel_rfl) hv h
  obtain ⟨A, n', c, l, rfl, hl⟩ := open_slots h0
  obtain ⟨B, m, e, tr, rfl, ht⟩ := open_ints8 h1
  obtain ⟨q, e2, _, w2⟩ := DataW.trod_int Try.underlying3 h2
  simp at e2
  subst e2
  exact ⟨A, n', c, l, B, m, e, tr, q, rfl, hl, ht, wf_i64 w2⟩
set_option maxRecDepth 100000 in
theorem open_op {r : Reach} {b0 : Nat} {v : Value} {d : DataW H} {p : List MemPlace} (hv : Value.okWide Try.prog w r b0 28 v) (h : DataW.Trod enc Try.prog w base spare held 28 v d p) :
    ∃ A n c t a b, v = .agg #[.slice A n c, .int .i64 a, .int .i64 b] ∧ IsC w A n c t ∧ i64 a ∧ i64 b := by
  obtain ⟨v0, v1, v2, y0, y1, y2, n, rfl, _, _, h0, h1, h2⟩ := open_agg3 Try.underlying28 (by kernel_rfl) (by kernel_rfl) hv h
  obtain ⟨A, n', c, t, rfl, ht⟩ := open_cells h0
  obtain ⟨q, e1, _, w1⟩ := DataW.trod_int Try.underlying3 h1
  obtain ⟨q2, e2, _, w2⟩ := DataW.trod_int Try.underlying3 h2
  simp at e1 e2
  subst e1 e2
  exact ⟨A, n', c, t, q, q2, rfl, ht, wf_i64 w1, wf_i64 w2⟩
end
end Go.Proofs.Ytlndjooddkjnoaa
