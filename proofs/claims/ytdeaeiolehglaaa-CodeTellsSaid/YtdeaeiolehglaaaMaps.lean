/- Maps with whole numbers as keys, as lists of pairs in the order in which keys came; any values. -/
import Derived.Maps.OwnSet
import Derived.Maps.OwnOps
import Derived.Test.YtdeaeiolehglaaaLaw
import Derived.Test.YtdeaeiolehglaaaRows
set_option linter.unusedVariables false
set_option linter.unusedSimpArgs false
namespace Go.Proofs.Ytdeaeiolehglaaa
open Go.RowKit Go.Maps

def look (l : List (Int × Value)) (k : Int) : Option Value := match l with
  | [] => none
  | p :: r => if p.1 = k then some p.2 else look r k
def putA (l : List (Int × Value)) (k : Int) (v : Value) : List (Int × Value) := match l with
  | [] => [(k, v)]
  | p :: r => if p.1 = k then (k, v) :: r else p :: putA r k v
theorem look_putA (l : List (Int × Value)) (k j : Int) (v : Value) : look (putA l k v) j = if k = j then some v else look l j := by
  induction l with
  | nil => rfl
  | cons p r ih =>
    simp only [putA]
    split
    · rename_i h
      simp only [look]
      by_cases hj : k = j
      · rw [if_pos hj, if_pos hj]
      · rw [if_neg hj, if_neg hj, if_neg (by rw [h]; exact hj)]
    · rename_i h
      simp only [look]
      by_cases hp : p.1 = j
      · rw [if_pos hp, if_pos hp, if_neg (by rintro rfl; exact h hp)]
      · rw [if_neg hp, if_neg hp, ih]
theorem length_putA (l : List (Int × Value)) (k : Int) (v : Value) : (putA l k v).length = if (look l k).isSome then l.length else l.length + 1 := by
  induction l with
  | nil => rfl
  | cons p r ih =>
    simp only [putA, look]
    split
    · rfl
    · rw [List.length_cons, ih]; split <;> simp
theorem putA_new {l : List (Int × Value)} {k : Int} {v : Value} (h : look l k = none) : putA l k v = l ++ [(k, v)] := by
  induction l with
  | nil => rfl
  | cons p r ih =>
    simp only [look] at h
    split at h
    · cases h
    · rename_i hp
      simp only [putA, if_neg hp, ih h, List.cons_append]

def rawR : Value → Option (DataW Value × List MemPlace) := fun v => some (.held v, [])
/-- block b is a map that holds these pairs -/
structure MapI (P : Program) (K : TypeId) (w : World) (b : Nat) (l : List (Int × Value)) : Prop where
  has : ∃ D : DataW Value, w.ownsMap P K rawR b l.length D ∧ Maps.size D = l.length ∧ (∀ k, i64 k → Maps.has D (.int .i64 k) = (look l k).isSome) ∧ ∀ k z, i64 k → D.atKey (.int .i64 k) (.held z) = .held ((look l k).getD z)
section
variable {P : Program} {K : TypeId} {w w' : World} {b : Nat} {l : List (Int × Value)}
theorem MapI.made (w : World) (P : Program) (K : TypeId) : MapI P K (w.alloc (.map #[] 0)) w.heap.size [] :=
  ⟨.map [], World.ownsMap_made w P K rawR, rfl, fun _ _ => rfl, fun _ _ _ => rfl⟩
theorem MapI.lt (h : MapI P K w b l) : b < w.heap.size := by
  obtain ⟨D, h1, _⟩ := h.has
  exact h1.lt
theorem MapI.block (h : MapI P K w b l) (hb : w'.heap[b]? = w.heap[b]?) : MapI P K w' b l := by
  obtain ⟨D, ⟨es, clock, h1, h2⟩, h3⟩ := h.has
  exact ⟨D, ⟨es, clock, hb.trans h1, h2⟩, h3⟩
theorem MapI.below (h : MapI P K w b l) (hb : Below w.heap.size w w') : MapI P K w' b l := h.block (hb.block b h.lt)
theorem MapI.isMap (h : MapI P K w b l) : ∃ es clock, w.heap[b]? = some (.map es clock) := by
  obtain ⟨D, ⟨es, clock, h1, h2⟩, h3⟩ := h.has
  exact ⟨es, clock, h1⟩
theorem i64_wf {k : Int} (h : i64 k) : (Lit.int .i64 k).wf = true := by
  unfold i64 at h
  simp [Lit.wf, IntKind.min, IntKind.max, IntKind.signed, IntKind.bits]
  omega
theorem own_size {R : Value → Option (DataW Value × List MemPlace)} {n : Nat} {D : DataW Value} (h : w.ownsMap P K R b n D) : w.ownsMap P K R b (Maps.size D) D := by
  obtain ⟨es, clock, h1, F, h2, rfl⟩ := h
  exact ⟨es, clock, h1, F, by simp [Maps.size, length_sorted], rfl⟩

variable {ops : Array Oper} {rest : List Oper} {o : Oper} {a : Act} {Q : Exit → Act → World → Prop}
/-- 'v, ok := m[k]' -/
theorem wpList_map_ok (hg : o.guard = none) (m x : Operand) (t : TypeId) (hop : o.op = Op.lookup t m x true) (e : TypeId) (hk : P.underlying K = some (.int .i64)) (ht : P.underlying t = some (.map K e))
    {z : Value} (hz : (zeroValue e).run P w = .ok z w) (hm : a.eval m = .map (some b)) (h : MapI P K w b l) {k : Int} (hx : a.eval x = .int .i64 k) (hw : i64 k)
    (hK : wpList P ops Q rest (a.put o.dst (.tuple #[(look l k).getD z, .bool (look l k).isSome])) w) : wpList P ops Q (o :: rest) a w := by
  obtain ⟨D, h1, h2, h3, h4⟩ := h.has
  refine wpList_lookup_own_ok w hg m x t hop K e (int_keyed hk) ht rawR hz (.held z) [] rfl b _ D hm h1 _ _ hx (keyOf_int_mk hk (i64_wf hw)) fun v ps hv => ?_
  simp only [rawR, Option.some.injEq, Prod.mk.injEq] at hv
  have hv1 := hv.1
  rw [h4 k z hw] at hv1
  injection hv1 with hv1
  rw [hv1, h3 k hw]
  exact hK
/-- 'm[k]' -/
theorem wpList_map_get (hg : o.guard = none) (m x : Operand) (t : TypeId) (hop : o.op = Op.lookup t m x false) (e : TypeId) (hk : P.underlying K = some (.int .i64)) (ht : P.underlying t = some (.map K e))
    {z : Value} (hz : (zeroValue e).run P w = .ok z w) (hm : a.eval m = .map (some b)) (h : MapI P K w b l) {k : Int} (hx : a.eval x = .int .i64 k) (hw : i64 k)
    (hK : wpList P ops Q rest (a.put o.dst ((look l k).getD z)) w) : wpList P ops Q (o :: rest) a w := by
  refine wpList_plain hg fun K' hK' => ?_
  obtain ⟨D, h1, h2, h3, h4⟩ := h.has
  obtain ⟨v, ps, hrun, hv⟩ := h1.lookup (int_keyed hk) ht hz (zd := .held z) (zp := []) rfl (keyOf_int_mk hk (i64_wf hw))
  simp only [rawR, Option.some.injEq, Prod.mk.injEq] at hv
  have hv1 := hv.1
  rw [h4 k z hw] at hv1
  injection hv1 with hv1
  subst hv1
  unfold Oper.wp
  simp [execOp, hop, hm, hx, hrun, Result.andThen]
  exact hK' _ _ hK
theorem run_map_put {t : TypeId} (e : TypeId) (hk : P.underlying K = some (.int .i64)) (ht : P.underlying t = some (.map K e))
    (h : MapI P K w b l) (hn : l.length < 1000000000) {k : Int} (v : Value) (hw : i64 k) : ∃ w', (Instr.mapUpdate t (.map (some b)) (.int .i64 k) v).run P w = .ok () w' ∧ MapI P K w' b (putA l k v) ∧ w.grownBy w' (some b) := by
  obtain ⟨D, h1, h2, h3, h4⟩ := h.has
  obtain ⟨w', hrun, hown, hgr⟩ := h1.update (int_keyed hk) ht (by unfold maxLen; omega) (keyOf_int_mk hk (i64_wf hw)) (d := .held v) (ps := []) (val := v) rfl
  refine ⟨w', hrun, ⟨⟨D.put (.int .i64 k) (.held v), ?_, ?_, ?_, ?_⟩⟩, hgr⟩
  · have := own_size hown
    rwa [size_put (h1.tidy (int_keyed hk)), h3 k hw, h2, ← length_putA l k v] at this
  · rw [size_put (h1.tidy (int_keyed hk)), h3 k hw, h2, ← length_putA l k v]
  · intro j hj
    rw [look_putA]
    by_cases hjk : k = j
    · subst hjk
      rw [has_put_same (k := .int .i64 k) h1.isMap trivial, if_pos rfl]; rfl
    · rw [has_put_other (by intro he; injection he with _ he; exact hjk he.symm), if_neg hjk, h3 j hj]
  · intro j z hj
    rw [look_putA]
    by_cases hjk : k = j
    · subst hjk
      rw [atKey_put_same (k := .int .i64 k) h1.isMap trivial, if_pos rfl]; rfl
    · rw [atKey_put_other (by intro he; injection he with _ he; exact hjk he.symm), if_neg hjk, h4 j z hj]
/-- 'm[k] = v' -/
theorem wpList_map_put (hg : o.guard = none) (m x y : Operand) (t : TypeId) (hop : o.op = Op.mapUpdate t m x y) (e : TypeId) (hk : P.underlying K = some (.int .i64)) (ht : P.underlying t = some (.map K e))
    (hm : a.eval m = .map (some b)) (h : MapI P K w b l) (hn : l.length < 1000000000) {k : Int} {v : Value} (hx : a.eval x = .int .i64 k) (hy : a.eval y = v) (hw : i64 k)
    (hK : ∀ w', MapI P K w' b (putA l k v) → w.grownBy w' (some b) → wpList P ops Q rest (a.put o.dst undef) w') : wpList P ops Q (o :: rest) a w := by
  refine wpList_plain hg fun K' hK' => ?_
  obtain ⟨w', hrun, r1, r2⟩ := run_map_put e hk ht h hn v hw
  unfold Oper.wp
  simp [execOp, hop, hm, hx, hy, hrun, Result.andThen]
  exact hK' _ _ (hK w' r1 r2)
/-- 'len(m)' -/
theorem wpList_map_len (hg : o.guard = none) (m : Operand) (t : TypeId) (hop : o.op = Op.call { callee := Callee.builtin Builtin.len, args := #[m], argTypes := #[t] }) (e : TypeId) (ht : P.underlying t = some (.map K e))
    (hm : a.eval m = .map (some b)) (h : MapI P K w b l) (hK : wpList P ops Q rest (a.put o.dst (.int .i64 l.length)) w) : wpList P ops Q (o :: rest) a w := by
  obtain ⟨D, h1, h2, h3, h4⟩ := h.has
  refine wpList_len_own w hg m t hop K e ht rawR b _ D hm h1 ?_
  rw [h2]
  exact hK
end
end Go.Proofs.Ytdeaeiolehglaaa
