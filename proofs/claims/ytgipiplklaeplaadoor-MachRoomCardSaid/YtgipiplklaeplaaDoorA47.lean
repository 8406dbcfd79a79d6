/- Texts of this proof that belong together: words of memory, plain laws, walks. -/
import Derived.ChangeArms
import Derived.ChangeOld
import Derived.ChangeSame
import Derived.Deep.Fields
import Derived.Deep.Slices
import Derived.Lib.SmallJoins
import Derived.OpenShut
import Derived.ProofKit
import Derived.ShutString
import Derived.Test.YtgipiplklaeplaaDoorRows
import Derived.Test.YtgipiplklaeplaaDoorA01
import Derived.Test.YtgipiplklaeplaaDoorA21
import Derived.Test.YtgipiplklaeplaaDoorA22
set_option linter.unusedVariables false
set_option linter.unusedSimpArgs false
namespace Go.Proofs.YtgipiplklaeplaaDoor
open Go.RowKit Go.ChangeShapes Go.WideShapes Go.Deep
theorem fieldsC : Tryd.prog.underlying 66 = some (.struct (Tryd.prog.fieldsOf 66)) := by kernel_rfl
theorem fieldC0 : ((Tryd.prog.fieldsOf 66)[0]?).map (·.type) = some 3 := by kernel_rfl
theorem fieldC1 : ((Tryd.prog.fieldsOf 66)[1]?).map (·.type) = some 9 := by kernel_rfl
theorem fieldC2 : ((Tryd.prog.fieldsOf 66)[2]?).map (·.type) = some 3 := by kernel_rfl
theorem fieldC3 : (Tryd.prog.fieldsOf 66).size = 3 := by kernel_rfl
theorem cellsC : Tryd.prog.cellsOf 66 = 3 := by kernel_rfl
theorem oneFieldsC : oneCellFields Tryd.prog (Tryd.prog.fieldsOf 66) = true := by kernel_rfl
theorem wf_i64 {n : Int} (h : (Lit.int .i64 n).wf = true) : i64 n := by
  simp [Lit.wf, IntKind.min, IntKind.max, IntKind.signed, IntKind.bits] at h
  unfold i64
  omega
theorem spot_none {w : World} {a : Addr} {v : Value} (h : w.cell? a = some v) : a.spot = none := World.cell?_spot h
theorem build_list {α : Type} (Pr : Nat → α → Prop) : ∀ n : Nat, (∀ i, i < n → ∃ c, Pr i c) → ∃ cs : List α, cs.length = n ∧ ∀ (i : Nat) (c : α), cs[i]? = some c → Pr i c := by
  intro n
  induction n with
  | zero => intro _; exact ⟨[], rfl, by simp⟩
  | succ n ih =>
    intro key
    obtain ⟨cs, h1, h2⟩ := ih (fun i hi => key i (by omega))
    obtain ⟨c, hc⟩ := key n (by omega)
    refine ⟨cs ++ [c], by simp [h1], fun i d hd => ?_⟩
    rw [List.getElem?_append] at hd
    split at hd
    · exact h2 i d hd
    · rename_i hi
      have : i = cs.length := by
        have := (List.getElem?_eq_some_iff.1 hd).1
        simp at this
        omega
      subst this
      simp at hd
      subst hd
      rw [h1]
      exact hc
section
variable {H : Type} {enc : TypeId × Value → H} {w : World} {base : Nat} {spare : Nat → Bool} {held : Bool}
theorem open_cells {fuel : Nat} {v : Value} {x : DataW H × List MemPlace} (h : DataW.trod enc Tryd.prog w base spare held fuel 22 [v] = some x) :
    ∃ A n cap cs, v = .slice A n cap ∧ IsC w A n cap cs := by
  rcases open_slice Tryd.underlying22 h with ⟨hcs, _⟩ | ⟨a, len, cap, m, n, D, Pl, hcs, _, hl, hm, hmm, _, hel⟩
  · simp at hcs
    exact ⟨none, 0, 0, [], hcs, IsC.nil w none 0 (by simp [maxLen])⟩
  · simp at hcs
    subst hcs
    have hlm : len ≤ m := by rw [hmm]; split <;> omega
    have key : ∀ i, i < len → ∃ c : C, c.wf ∧ w.cell? (a.add (i * 3)) = some (.int .i64 c.kind) ∧ w.cell? ((a.add (i * 3)).add 1) = some (.string c.name) ∧ w.cell? ((a.add (i * 3)).add 2) = some (.int .i64 c.n) := by
      intro i hi
      obtain ⟨cs', hc, ht'⟩ := hel i (by omega)
      rw [cellsC] at hc
      obtain ⟨ys, n', hn', hy, hlen, hyl, hf⟩ := DataW.trod_struct fieldsC ht'
      obtain ⟨_, hcl, hat⟩ := World.cells?_some hc
      have get : ∀ (j : Nat) (t : TypeId), ((Tryd.prog.fieldsOf 66)[j]?).map (·.type) = some t → ∃ u z, w.cell? ((a.add (i * 3)).add j) = some u ∧ DataW.trod enc Tryd.prog w base spare held n' t [u] = some z := by
        intro j t hj
        obtain ⟨f, hj', hft⟩ := Option.map_eq_some_iff.1 hj
        subst hft
        clear hj
        have hj := hj'
        obtain ⟨ho, hk⟩ := hone_of oneFieldsC j f hj
        have hjl : j < (Tryd.prog.fieldsOf 66).size := (Array.getElem?_eq_some_iff.1 hj).1
        rw [fieldC3] at hjl
        have hcell := hat j hjl
        have h1 := hf j f hj
        rw [ho, hk] at h1
        have hone' : (cs'.drop j).take 1 = [cs'[j]'(by omega)] := by
          rw [List.drop_eq_getElem_cons (by omega)]
          rfl
        rw [hone'] at h1
        have hys : ys[j]? = some (ys[j]'(by rw [hyl, fieldC3]; exact hjl)) := List.getElem?_eq_getElem _
        rw [List.getElem?_eq_getElem (by omega)] at hcell
        exact ⟨_, _, hcell, h1.trans hys⟩
      obtain ⟨u0, z0, c0, t0⟩ := get 0 _ fieldC0
      obtain ⟨u1, z1, c1, t1⟩ := get 1 _ fieldC1
      obtain ⟨u2, z2, c2, t2⟩ := get 2 _ fieldC2
      obtain ⟨k, e0, _, w0⟩ := DataW.trod_int Tryd.underlying3 t0
      obtain ⟨s, e1, _, w1⟩ := DataW.trod_string Tryd.underlying9 t1
      obtain ⟨q, e2, _, w2⟩ := DataW.trod_int Tryd.underlying3 t2
      simp at e0 e1 e2
      subst e0 e1 e2
      exact ⟨⟨k, s, q⟩, ⟨wf_i64 w0, wf_i64 w2, w1⟩, by simpa [Addr.add] using c0, c1, c2⟩
    have hcs := build_list _ len key
    obtain ⟨cs, hlen, hcell⟩ := hcs
    refine ⟨some a, len, cap, cs, rfl, ⟨by rw [flatC_len, hlen], hl, hm, fun hn => ?_⟩, fun c hc => ?_⟩
    · obtain ⟨b, off, spot⟩ := a
      obtain ⟨c, hc⟩ : ∃ c, cs[0]? = some c := ⟨_, List.getElem?_eq_getElem (by omega)⟩
      have h0 := (hcell 0 c hc).2.1
      have hs : spot = none := by simpa [Addr.add] using spot_none h0
      subst hs
      refine ⟨b, off, rfl, World.block_lt_of_cell? w _ h0, fun j u hu => ?_⟩
      have hadd : ∀ k, (⟨b, off, none⟩ : Addr).add k = ⟨b, off + k, none⟩ := fun k => by unfold Addr.add; split <;> simp_all
      have hadd' : ∀ o k, (⟨b, o, none⟩ : Addr).add k = ⟨b, o + k, none⟩ := fun o k => by unfold Addr.add; split <;> simp_all
      have hjl : j < cs.length * 3 := by
        have := (List.getElem?_eq_some_iff.1 hu).1
        rwa [flatC_len] at this
      obtain ⟨q, hq⟩ : ∃ q, cs[j / 3]? = some q := ⟨_, List.getElem?_eq_getElem (by omega)⟩
      obtain ⟨_, g0, g1, g2⟩ := hcell _ q hq
      obtain ⟨f0, f1, f2⟩ := flatC_get cs (j / 3) q hq
      rw [hadd] at g0 g1 g2
      rw [hadd'] at g1 g2
      have hm3 : j % 3 = 0 ∨ j % 3 = 1 ∨ j % 3 = 2 := by omega
      rcases hm3 with hm3 | hm3 | hm3
      · have e : j = j / 3 * 3 := by omega
        rw [e] at hu ⊢
        rw [f0] at hu
        injection hu with hu
        rw [← hu]
        exact g0
      · have e : j = j / 3 * 3 + 1 := by omega
        rw [e] at hu ⊢
        rw [f1] at hu
        injection hu with hu
        rw [← hu, ← Nat.add_assoc]
        exact g1
      · have e : j = j / 3 * 3 + 2 := by omega
        rw [e] at hu ⊢
        rw [f2] at hu
        injection hu with hu
        rw [← hu, ← Nat.add_assoc]
        exact g2
    · obtain ⟨i, hi, rfl⟩ := List.getElem_of_mem hc
      exact (hcell i _ (List.getElem?_eq_getElem hi)).1
end
end Go.Proofs.YtgipiplklaeplaaDoor
namespace Go.Proofs.YtgipiplklaeplaaDoor
open Go.RowKit Go.ChangeShapes Go.WideShapes Go.Deep Go.Joins
section
variable {H : Type} {enc : TypeId × Value → H} {w : World} {base : Nat} {spare : Nat → Bool} {held : Bool}
theorem open_row {t e : TypeId} (ht : Tryd.prog.underlying t = some (.slice e)) {k : Nat} (hke : Tryd.prog.cellsOf e = k) (hp : 0 < k) {fuel : Nat} {v : Value} {x : DataW H × List MemPlace} (h : DataW.trod enc Tryd.prog w base spare held fuel t [v] = some x) :
    ∃ (A : Option Addr) (n cap : Nat) (vs : List (List Value)), v = .slice A n cap ∧ vs.length = n ∧ (∀ u ∈ vs, u.length = k) ∧ Sl w k A n cap vs.flatten ∧ ∀ (i : Nat) (u : List Value), vs[i]? = some u → ∃ (n' : Nat) (z : DataW H × List MemPlace), DataW.trod enc Tryd.prog w base spare held n' e u = some z := by
  rcases open_slice ht h with ⟨hcs, _⟩ | ⟨a, len, cap, m, n, D, Pl, hcs, _, hl, hm, hmm, _, hel⟩
  · simp at hcs
    exact ⟨none, 0, 0, [], hcs, rfl, by simp, ⟨by simp, Nat.le_refl _, by simp [maxLen], fun h => absurd h (by omega)⟩, by simp⟩
  · simp at hcs
    subst hcs
    have hlm : len ≤ m := by rw [hmm]; split <;> omega
    have key : ∀ i, i < len → ∃ u : List Value, u.length = k ∧ (∀ j c, u[j]? = some c → w.cell? ((a.add (i * k)).add j) = some c) ∧ ∃ (n' : Nat) (z : DataW H × List MemPlace), DataW.trod enc Tryd.prog w base spare held n' e u = some z := by
      intro i hi
      obtain ⟨cs', hc, ht'⟩ := hel i (by omega)
      rw [hke] at hc
      obtain ⟨_, hcl, hat⟩ := World.cells?_some hc
      refine ⟨cs', hcl, fun j c hj => ?_, _, _, ht'⟩
      have hjl : j < k := by have := (List.getElem?_eq_some_iff.1 hj).1; omega
      rw [← hj]
      exact hat j hjl
    obtain ⟨vs, hlen, hvs⟩ := build_list _ len key
    have hk : ∀ u ∈ vs, u.length = k := fun u hu => by
      obtain ⟨i, hi, rfl⟩ := List.getElem_of_mem hu
      exact (hvs i _ (List.getElem?_eq_getElem hi)).1
    refine ⟨some a, len, cap, vs, rfl, hlen, hk, ⟨by rw [flatten_len hk, hlen], hl, hm, fun hn => ?_⟩, fun i u hu => (hvs i u hu).2.2⟩
    obtain ⟨b, off, spot⟩ := a
    obtain ⟨u0, hu0⟩ : ∃ u, vs[0]? = some u := ⟨_, List.getElem?_eq_getElem (by omega)⟩
    obtain ⟨h01, h02, _⟩ := hvs 0 u0 hu0
    obtain ⟨c0, hc0⟩ : ∃ c, u0[0]? = some c := ⟨_, List.getElem?_eq_getElem (by omega)⟩
    have h0 := h02 0 c0 hc0
    have hs : spot = none := by simpa [Addr.add] using spot_none h0
    subst hs
    refine ⟨b, off, rfl, by simpa [Addr.add] using World.block_lt_of_cell? w _ h0, fun j u hu => ?_⟩
    have hadd : ∀ o q, (⟨b, o, none⟩ : Addr).add q = ⟨b, o + q, none⟩ := fun o q => by unfold Addr.add; split <;> simp_all
    have hjl : j < vs.length * k := by
      have := (List.getElem?_eq_some_iff.1 hu).1
      rwa [flatten_len hk] at this
    have hdiv : j / k < vs.length := (Nat.div_lt_iff_lt_mul hp).2 hjl
    have hmod : j % k < k := Nat.mod_lt _ hp
    have hjk : j / k * k + j % k = j := Nat.div_add_mod' j k
    obtain ⟨vi, hvi⟩ : ∃ vi, vs[j / k]? = some vi := ⟨_, List.getElem?_eq_getElem hdiv⟩
    obtain ⟨g1, g2, _⟩ := hvs _ vi hvi
    obtain ⟨c, hc⟩ : ∃ c, vi[j % k]? = some c := ⟨_, List.getElem?_eq_getElem (by omega)⟩
    have g3 := g2 _ c hc
    have g4 := flatten_get hk hvi hc
    rw [hjk, hu] at g4
    have g4 := Option.some.inj g4
    rw [hadd, hadd, Nat.add_assoc, hjk] at g3
    rw [g3, g4]
theorem struct_get {e : TypeId} (hf : Tryd.prog.underlying e = some (.struct (Tryd.prog.fieldsOf e))) (hone : oneCellFields Tryd.prog (Tryd.prog.fieldsOf e) = true) {n k : Nat} {u : List Value} {z : DataW H × List MemPlace} (hs : (Tryd.prog.fieldsOf e).size = k) (hu : u.length = k)
    (h : DataW.trod enc Tryd.prog w base spare held n e u = some z) : ∀ (j : Nat) (t : TypeId), ((Tryd.prog.fieldsOf e)[j]?).map (·.type) = some t → ∃ n' y c, u[j]? = some c ∧ DataW.trod enc Tryd.prog w base spare held n' t [c] = some y := by
  intro j t hj
  obtain ⟨ys, n', hn', hy, hlen, hyl, hff⟩ := DataW.trod_struct hf h
  obtain ⟨f, hj', hft⟩ := Option.map_eq_some_iff.1 hj
  subst hft
  obtain ⟨ho, hk⟩ := hone_of hone j f hj'
  have hjl : j < (Tryd.prog.fieldsOf e).size := (Array.getElem?_eq_some_iff.1 hj').1
  have h1 := hff j f hj'
  rw [ho, hk] at h1
  have hone' : (u.drop j).take 1 = [u[j]'(by omega)] := by
    rw [List.drop_eq_getElem_cons (by omega)]
    rfl
  rw [hone'] at h1
  have hys : ys[j]? = some (ys[j]'(by rw [hyl]; exact hjl)) := List.getElem?_eq_getElem _
  exact ⟨_, _, _, List.getElem?_eq_getElem (by omega), h1.trans hys⟩
end
end Go.Proofs.YtgipiplklaeplaaDoor
namespace Go.Proofs.YtgipiplklaeplaaDoor
open Go.RowKit Go.ChangeShapes Go.WideShapes Go.Deep Go.Joins
section
variable {H : Type} {enc : TypeId × Value → H} {w : World} {base : Nat} {spare : Nat → Bool} {held : Bool}
theorem fieldsS : Tryd.prog.underlying 90 = some (.struct (Tryd.prog.fieldsOf 90)) := by kernel_rfl
theorem open_slots {fuel : Nat} {v : Value} {x : DataW H × List MemPlace} (h : DataW.trod enc Tryd.prog w base spare held fuel 41 [v] = some x) : ∃ A n cap l, v = .slice A n cap ∧ IsC w A n cap l := by
  obtain ⟨A, n, cap, vs, rfl, h1, h2, h3, h4⟩ := open_row (k := 3) (e := 90) Tryd.underlying41 (by kernel_rfl) (by omega) h
  have key : ∀ i, i < n → ∃ c : C, vs[i]? = some c.flat ∧ c.wf := by
    intro i hi
    obtain ⟨u, hu⟩ : ∃ u, vs[i]? = some u := ⟨_, List.getElem?_eq_getElem (by omega)⟩
    obtain ⟨n', z, hz⟩ := h4 i u hu
    have hl := h2 u (List.mem_of_getElem? hu)
    have get := struct_get fieldsS (by kernel_rfl) (k := 3) (by kernel_rfl) hl hz
    obtain ⟨_, _, c0, g0, t0⟩ := get 0 3 (by kernel_rfl)
    obtain ⟨_, _, c1, g1, t1⟩ := get 1 9 (by kernel_rfl)
    obtain ⟨_, _, c2, g2, t2⟩ := get 2 3 (by kernel_rfl)
    obtain ⟨k0, e0, _, w0⟩ := DataW.trod_int Tryd.underlying3 t0
    obtain ⟨k1, e1, _, w1⟩ := DataW.trod_string Tryd.underlying9 t1
    obtain ⟨k2, e2, _, w2⟩ := DataW.trod_int Tryd.underlying3 t2
    simp at e0 e1 e2
    subst e0 e1 e2
    refine ⟨⟨k0, k1, k2⟩, ?_, ⟨wf_i64 w0, wf_i64 w2, w1⟩⟩
    rw [hu]
    match u, hl with
    | [a0, a1, a2], _ =>
      simp at g0 g1 g2
      rw [g0, g1, g2]; rfl
  obtain ⟨l, hll, hl⟩ := build_list _ n key
  have hvs : vs = l.map C.flat := by
    apply List.ext_getElem?
    intro i
    rw [List.getElem?_map]
    by_cases hi : i < n
    · have hx := List.getElem?_eq_getElem (l := l) (i := i) (by omega)
      rw [hx, (hl i _ hx).1]; rfl
    · rw [List.getElem?_eq_none (by omega), List.getElem?_eq_none (by omega)]; rfl
  refine ⟨A, n, cap, l, rfl, ?_, fun c hc => ?_⟩
  · rw [hvs] at h3
    exact h3
  · obtain ⟨i, hi, rfl⟩ := List.getElem_of_mem hc
    exact (hl i _ (List.getElem?_eq_getElem hi)).2
theorem open_ints8 {fuel : Nat} {v : Value} {x : DataW H × List MemPlace} (h : DataW.trod enc Tryd.prog w base spare held fuel 42 [v] = some x) : ∃ A n cap l, v = .slice A n cap ∧ IsI w A n cap l := by
  obtain ⟨A, n, cap, vs, rfl, h1, h2, h3, h4⟩ := open_row (k := 1) (e := 3) Tryd.underlying42 (by kernel_rfl) (by omega) h
  have key : ∀ i, i < n → ∃ c : Int, vs[i]? = some [.int .i64 c] ∧ i64 c := by
    intro i hi
    obtain ⟨u, hu⟩ : ∃ u, vs[i]? = some u := ⟨_, List.getElem?_eq_getElem (by omega)⟩
    obtain ⟨n', z, hz⟩ := h4 i u hu
    have hl := h2 u (List.mem_of_getElem? hu)
    match u, hl with
    | [a0], _ =>
      obtain ⟨k0, e0, _, w0⟩ := DataW.trod_int Tryd.underlying3 hz
      simp at e0
      subst e0
      exact ⟨k0, hu, wf_i64 w0⟩
  obtain ⟨l, hll, hl⟩ := build_list _ n key
  have hvs : vs = l.map fun c => [.int .i64 c] := by
    apply List.ext_getElem?
    intro i
    rw [List.getElem?_map]
    by_cases hi : i < n
    · have hx := List.getElem?_eq_getElem (l := l) (i := i) (by omega)
      rw [hx, (hl i _ hx).1]; rfl
    · rw [List.getElem?_eq_none (by omega), List.getElem?_eq_none (by omega)]; rfl
  refine ⟨A, n, cap, l, rfl, ?_, fun c hc => ?_⟩
  · have : vs.flatten = l.map (Value.int .i64) := by
      rw [hvs]
      clear hvs hl hll h1 h2 h3 h4
      induction l with
      | nil => rfl
      | cons a l ih => simp [ih]
    rw [this] at h3
    exact h3
  · obtain ⟨i, hi, rfl⟩ := List.getElem_of_mem hc
    exact (hl i _ (List.getElem?_eq_getElem hi)).2
set_option maxRecDepth 100000 in
theorem open_heap {r : Reach} {b0 : Nat} {v : Value} {d : DataW H} {p : List MemPlace} (hv : Value.okWide Tryd.prog w r b0 44 v) (h : DataW.Trod enc Tryd.prog w base spare held 44 v d p) :
    ∃ A n c l B m e tr x, v = .agg #[.slice A n c, .slice B m e, .int .i64 x] ∧ IsC w A n c l ∧ IsI w B m e tr ∧ i64 x := by
  obtain ⟨v0, v1, v2, y0, y1, y2, n, rfl, _, _, h0, h1, h2⟩ := open_agg3 Tryd.underlying44 (by kernel_rfl) (by kernel_rfl) hv h
  obtain ⟨A, n', c, l, rfl, hl⟩ := open_slots h0
  obtain ⟨B, m, e, tr, rfl, ht⟩ := open_ints8 h1
  obtain ⟨q, e2, _, w2⟩ := DataW.trod_int Tryd.underlying3 h2
  simp at e2
  subst e2
  exact ⟨A, n', c, l, B, m, e, tr, q, rfl, hl, ht, wf_i64 w2⟩
set_option maxRecDepth 100000 in
theorem open_on {r : Reach} {b0 : Nat} {v : Value} {d : DataW H} {p : List MemPlace} (hv : Value.okWide Tryd.prog w r b0 46 v) (h : DataW.Trod enc Tryd.prog w base spare held 46 v d p) :
    ∃ A n c l s B m e t x, v = .agg #[.slice A n c, .int .i64 s, .slice B m e, .int .i64 x] ∧ IsI w A n c l ∧ i64 s ∧ IsC w B m e t ∧ i64 x := by
  obtain ⟨v0, v1, v2, v3, y0, y1, y2, y3, n, rfl, _, _, h0, h1, h2, h3⟩ := open_agg4 Tryd.underlying46 (by kernel_rfl) (by kernel_rfl) hv h
  obtain ⟨A, n', c, l, rfl, hl⟩ := open_ints8 h0
  obtain ⟨q1, e1, _, w1⟩ := DataW.trod_int Tryd.underlying3 h1
  obtain ⟨B, m, e, t, rfl, ht⟩ := open_cells h2
  obtain ⟨q3, e3, _, w3⟩ := DataW.trod_int Tryd.underlying3 h3
  simp at e1 e3
  subst e1 e3
  exact ⟨A, n', c, l, q1, B, m, e, t, q3, rfl, hl, wf_i64 w1, ht, wf_i64 w3⟩
set_option maxRecDepth 100000 in
theorem open_pair {k : IntKind} {e t : TypeId} (ht : Tryd.prog.underlying t = some (.array 2 e)) (he : Tryd.prog.underlying e = some (.int k)) (hc : Tryd.prog.cellsOf e = 1) (hct : Tryd.prog.cellsOf t = 2) {r : Reach} {b0 : Nat} {v : Value} {d : DataW H} {p : List MemPlace} (hv : Value.okWide Tryd.prog w r b0 t v) (h : DataW.Trod enc Tryd.prog w base spare held t v d p) :
    ∃ x y, v = .agg #[.int k x, .int k y] ∧ (Lit.int k x).wf = true ∧ (Lit.int k y).wf = true := by
  simp only [Value.okWide, ht] at hv
  obtain ⟨cs, rfl, hsz, _⟩ := hv
  obtain ⟨fuel, hf⟩ := h
  obtain ⟨xs, m, _, _, hlen, hl, hel⟩ := DataW.trod_array ht hf
  have hs2 : cs.size = 2 := by rw [hsz, hct]
  obtain ⟨v0, v1, rfl⟩ := array2 hs2
  have h0 := hel 0 (by omega)
  have h1 := hel 1 (by omega)
  rw [hc, List.getElem?_eq_getElem (by omega)] at h0 h1
  simp only [Value.cells] at h0 h1
  obtain ⟨x, e0, _, w0⟩ := DataW.trod_int he h0
  obtain ⟨y, e1, _, w1⟩ := DataW.trod_int he h1
  simp at e0 e1
  subst e0 e1
  exact ⟨x, y, rfl, w0, w1⟩
end
end Go.Proofs.YtgipiplklaeplaaDoor
