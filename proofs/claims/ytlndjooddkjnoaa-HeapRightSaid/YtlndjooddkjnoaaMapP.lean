/- Maps of pairs of places: which pairs are in. -/
import Derived.WideKeyPair
import Derived.Maps.OwnSet
import Derived.Maps.OwnOps
import Derived.Test.YtlndjooddkjnoaaB0
import Derived.Test.YtlndjooddkjnoaaRows
import Derived.Test.YtlndjooddkjnoaaB1
set_option linter.unusedVariables false
set_option linter.unusedSimpArgs false
namespace Go.Proofs.Ytlndjooddkjnoaa
open Go.RowKit Go.Maps

def rawR : Value → Option (DataW Value × List MemPlace) := fun v => some (.held v, [])
theorem i64_wf {k : Int} (h : i64 k) : (Lit.int .i64 k).wf = true := by
  unfold i64 at h
  simp [Lit.wf, IntKind.min, IntKind.max, IntKind.signed, IntKind.bits]
  omega
def pv (p : Nat × Nat) : Value := .agg #[.int .i64 (p.1 : Int), .int .i64 (p.2 : Int)]
def pOk (p : Nat × Nat) : Prop := p.1 < 1000000 ∧ p.2 < 1000000
theorem pv_inj {p q : Nat × Nat} (h : pv p = pv q) : p = q := by
  obtain ⟨a, b⟩ := p
  obtain ⟨c, d⟩ := q
  unfold pv at h
  injection h with h
  simp at h
  exact Prod.ext (by show a = c; have := h.1; omega) (by show b = d; have := h.2; omega)
/-- keys that are pairs -/
structure KeyP (P : Program) (K : TypeId) : Prop where
  keyed : Keyed P K
  key : ∀ p, pOk p → ∃ l, keyOf P K (pv p) = some l
/-- block b is a map that holds 'true' at these pairs -/
structure MapP (P : Program) (K : TypeId) (w : World) (b : Nat) (S : List (Nat × Nat)) : Prop where
  has : ∃ D : DataW Value, w.ownsMap P K rawR b S.length D ∧ Maps.size D = S.length ∧ (∀ p l, pOk p → keyOf P K (pv p) = some l → Maps.has D l = decide (p ∈ S)) ∧ ∀ p l, pOk p → keyOf P K (pv p) = some l → D.atKey l (.held (.bool false)) = .held (.bool (decide (p ∈ S)))
section
variable {P : Program} {K : TypeId} {w w' : World} {b : Nat} {S : List (Nat × Nat)}
theorem own_size {R : Value → Option (DataW Value × List MemPlace)} {n : Nat} {D : DataW Value} (h : w.ownsMap P K R b n D) : w.ownsMap P K R b (Maps.size D) D := by
  obtain ⟨es, clock, h1, F, h2, rfl⟩ := h
  exact ⟨es, clock, h1, F, by simp [Maps.size, length_sorted], rfl⟩

theorem MapP.made (w : World) (P : Program) (K : TypeId) : MapP P K (w.alloc (.map #[] 0)) w.heap.size [] :=
  ⟨.map [], World.ownsMap_made w P K rawR, rfl, fun _ _ _ _ => rfl, fun _ _ _ _ => rfl⟩
theorem MapP.lt (h : MapP P K w b S) : b < w.heap.size := by
  obtain ⟨D, h1, _⟩ := h.has
  exact h1.lt
theorem MapP.block (h : MapP P K w b S) (hb : w'.heap[b]? = w.heap[b]?) : MapP P K w' b S := by
  obtain ⟨D, ⟨es, clock, h1, h2⟩, h3⟩ := h.has
  exact ⟨D, ⟨es, clock, hb.trans h1, h2⟩, h3⟩
theorem MapP.below (h : MapP P K w b S) (hb : Below w.heap.size w w') : MapP P K w' b S := h.block (hb.block b h.lt)
theorem MapP.isMap (h : MapP P K w b S) : ∃ es clock, w.heap[b]? = some (.map es clock) := by
  obtain ⟨D, ⟨es, clock, h1, h2⟩, h3⟩ := h.has
  exact ⟨es, clock, h1⟩
variable {ops : Array Oper} {rest : List Oper} {o : Oper} {a : Act} {Q : Exit → Act → World → Prop}
/-- 'm[p]' -/
theorem wpList_mapP_get (hkp : KeyP P K) (hw' : Region.wanted o (yielded ops a.tmps) = true) (m x : Operand) (t : TypeId) (hop : o.op = Op.lookup t m x false) (e : TypeId) (ht : P.underlying t = some (.map K e))
    (hz : (zeroValue e).run P w = .ok (.bool false) w) (hm : a.eval m = .map (some b)) (h : MapP P K w b S) {p : Nat × Nat} (hx : a.eval x = pv p) (hp : pOk p)
    (hK : wpList P ops Q rest (a.put o.dst (.bool (decide (p ∈ S)))) w) : wpList P ops Q (o :: rest) a w := by
  obtain ⟨D, h1, h2, h3, h4⟩ := h.has
  obtain ⟨l, hl⟩ := hkp.key p hp
  obtain ⟨v, ps, hrun, hv⟩ := h1.lookup hkp.keyed ht hz (zd := .held (.bool false)) (zp := []) rfl hl
  simp only [rawR, Option.some.injEq, Prod.mk.injEq] at hv
  have hv1 := hv.1
  rw [h4 p l hp hl] at hv1
  injection hv1 with hv1
  subst hv1
  refine wpList_run (Φ := fun v' w' => v' = .bool (decide (p ∈ S)) ∧ w' = w) hw' ⟨_, w, ?_, rfl, rfl⟩ ?_
  · simp [execOp, hop, hm, hx, hrun, Result.andThen]
  · rintro v' w2 ⟨rfl, rfl⟩
    exact hK
theorem run_mapP_put (hkp : KeyP P K) {t : TypeId} (e : TypeId) (ht : P.underlying t = some (.map K e))
    (h : MapP P K w b S) (hn : S.length < 1000000000) {p : Nat × Nat} (hp : pOk p) (hnew : p ∉ S) : ∃ w', (Instr.mapUpdate t (.map (some b)) (pv p) (.bool true)).run P w = .ok () w' ∧ MapP P K w' b (p :: S) ∧ w.grownBy w' (some b) := by
  obtain ⟨D, h1, h2, h3, h4⟩ := h.has
  obtain ⟨l, hl⟩ := hkp.key p hp
  obtain ⟨w', hrun, hown, hgr⟩ := h1.update hkp.keyed ht (by unfold maxLen; omega) hl (d := .held (.bool true)) (ps := []) (val := .bool true) rfl
  have hkl := hkp.keyed.key hl
  have hsz : Maps.size (D.put l (.held (.bool true))) = (p :: S).length := by
    rw [size_put (h1.tidy hkp.keyed), h3 p l hp hl, h2]
    simp [hnew]
  have hne : ∀ q l', pOk q → keyOf P K (pv q) = some l' → q ≠ p → l' ≠ l := by
    intro q l' hq hl' hqp e
    subst e
    exact hqp (pv_inj (hkp.keyed.inj hl' hl))
  refine ⟨w', hrun, ⟨⟨D.put l (.held (.bool true)), ?_, hsz, ?_, ?_⟩⟩, hgr⟩
  · have := own_size hown
    rwa [hsz] at this
  · intro q l' hq hl'
    by_cases e : q = p
    · subst e
      obtain rfl : l = l' := by rw [hl] at hl'; injection hl'
      rw [has_put_same h1.isMap hkl]; simp
    · rw [has_put_other (hne q l' hq hl' e), h3 q l' hq hl']; simp [e]
  · intro q l' hq hl'
    by_cases e : q = p
    · subst e
      obtain rfl : l = l' := by rw [hl] at hl'; injection hl'
      rw [atKey_put_same h1.isMap hkl]; simp
    · rw [atKey_put_other (hne q l' hq hl' e), h4 q l' hq hl']; simp [e]
/-- 'm[p] = true' -/
theorem wpList_mapP_put (hkp : KeyP P K) (hw' : Region.wanted o (yielded ops a.tmps) = true) (m x y : Operand) (t : TypeId) (hop : o.op = Op.mapUpdate t m x y) (e : TypeId) (ht : P.underlying t = some (.map K e))
    (hm : a.eval m = .map (some b)) (h : MapP P K w b S) (hn : S.length < 1000000000) {p : Nat × Nat} (hx : a.eval x = pv p) (hy : a.eval y = .bool true) (hp : pOk p) (hnew : p ∉ S)
    (hK : ∀ w', MapP P K w' b (p :: S) → w.grownBy w' (some b) → wpList P ops Q rest (a.put o.dst undef) w') : wpList P ops Q (o :: rest) a w := by
  obtain ⟨w', hrun, r1, r2⟩ := run_mapP_put hkp e ht h hn hp hnew
  refine wpList_step fun K hK' => ?_
  rw [if_pos hw']
  unfold Oper.wp
  simp [execOp, hop, hm, hx, hy, hrun, Result.andThen]
  exact hK' _ _ (hK w' r1 r2)
end
theorem size_succ {n k : Nat} (h : k < n) : ∃ m, n = m + 1 := ⟨n - 1, by omega⟩
theorem arrPair : Go.WideMaps.ArrKey Try.prog 89 3 2 := ⟨Try.underlying89, by kernel_rfl, by kernel_rfl, by kernel_rfl⟩
theorem keyPair : KeyP Try.prog 89 where
  keyed := Keyed.of_law arrPair.law
  key := by
    intro p hp
    have hr : (89 : TypeId) < Try.prog.types.size := of_decide_eq_true (by kernel_rfl)
    have hsz := size_succ hr
    exact ⟨_, Go.WideMaps.keyOf_pair arrPair Try.underlying3 hsz (i64_wf (by unfold i64; have := hp.1; omega)) (i64_wf (by unfold i64; have := hp.2; omega))⟩
end Go.Proofs.Ytlndjooddkjnoaa
