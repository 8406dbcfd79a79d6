/- 'append' of so many elements, none too. No program in sight. -/
import Derived.Test.YtdeaeiolehglaaaTail
set_option linter.unusedVariables false
set_option linter.unusedSimpArgs false
namespace Go.Proofs.Ytdeaeiolehglaaa
open Go.RowKit

section
variable {P : Program} {ops : Array Oper} {rest : List Oper} {o : Oper} {a : Act} {w : World} {Q : Exit → Act → World → Prop}
theorem run_append_zero (t ty e : TypeId) (i : TypeInfo) (ht : P.underlying t = some (.slice e)) (hi : P.info? e = some i) (As A : Option Addr) (n cs c : Nat) (hn : n ≤ cs) (h0 : As = none → n = 0 ∧ cs = 0) :
    (Builtin.append_ #[t, t] ty #[.slice As n cs, .slice A 0 c]).run P w = .ok (.slice As n cs) w := by
  cases As with
  | none =>
    obtain ⟨rfl, rfl⟩ := h0 rfl
    cases A <;> simp [Builtin.append_, run_underlying ht, sizeOf, typeInfo, hi, Builtin.lenOf, Builtin.firstCells, loadCells, loadCellsFrom]
  | some b =>
    cases A <;> simp [Builtin.append_, run_underlying ht, sizeOf, typeInfo, hi, Builtin.lenOf, Builtin.firstCells, loadCells, loadCellsFrom, hn, storeCells]
/-- what an append leaves -/
def AppZ (w : World) (base : Nat) (e : TypeId) (size n : Nat) (xs : List Value) (As : Option Addr) (v : Value) (w' : World) : Prop :=
  ∃ A' cap', v = .slice A' n cap' ∧ Tail w' base e size A' n cap' xs ∧ Below base w w' ∧ Apart w w' As A'
theorem run_append_any (s x : Operand) (t : TypeId) (ho : o.op = .call { callee := .builtin .append, args := #[s, x], argTypes := #[t, t] })
    (base : Nat) (e : TypeId) {z : Value} {size bytes : Nat} (ht : P.underlying t = some (.slice e)) (hinfo : (P.info? e).map (fun i => (i.zero, i.size, i.bytes)) = some (some z, size, bytes))
    (hzs : z.cells.size = size) (hsz : 0 < size) {As : Option Addr} {n cs : Nat} {xs : List Value} (hs : a.eval s = .slice As n cs) (hown : Tail w base e size As n cs xs) (hAs : ∀ b, As = some b → b.block < w.heap.size)
    {A : Option Addr} {m c : Nat} {news : List Value} (hx : a.eval x = .slice A m c) (hr : Sl w size A m c news) (h1 : ∀ u ∈ news, u.oneCell' = true)
    (h63 : n + m ≤ 1000000000000) (hbyt : bytes ≤ 64) (hbase : base ≤ w.heap.size) (h0 : As = none → cs = 0) :
    ∃ v w', (execOp a.eval o).run P w = .ok (.value v) w' ∧ AppZ w base e size (n + m) (xs ++ news) As v w' := by
  rcases Nat.eq_zero_or_pos m with hm | hm
  · subst hm
    obtain ⟨i, hi, hz, hsize, hby⟩ := info_parts hinfo
    have hn0 : news = [] := List.eq_nil_of_length_eq_zero (by simpa using hr.len)
    subst hn0
    have hrun := run_append_zero (P := P) (w := w) t o.type e i ht hi As A n cs c hown.hcap (fun h => ⟨by have := h0 h; have := hown.hcap; omega, h0 h⟩)
    refine ⟨.slice As n cs, w, by simp only [execOp, ho, resolve, invoke, builtin, Sem.run_bind, Sem.run_pure, Result.andThen_ok, List.map_toArray, List.map_cons, List.map_nil, hs, hx, hrun], As, cs, rfl, by simpa using hown, Below.refl _ _, ⟨Nat.le_refl _, fun _ _ _ => rfl, fun a ha => ⟨hAs a ha, .inl ⟨a, ha, rfl⟩⟩⟩⟩
  · obtain ⟨v, w', h2, A', cap', h3, _, h5⟩ := run_append_tail s x t ho base e ht hinfo hzs hsz hs hown hx hr h1 hm h63 hbyt hbase
    exact ⟨v, w', h2, A', cap', h3, h5⟩
theorem wpList_append_any (hw : Region.wanted o (yielded ops a.tmps) = true) (s x : Operand) (t : TypeId) (ho : o.op = .call { callee := .builtin .append, args := #[s, x], argTypes := #[t, t] })
    (base : Nat) (e : TypeId) {z : Value} {size bytes : Nat} (ht : P.underlying t = some (.slice e)) (hinfo : (P.info? e).map (fun i => (i.zero, i.size, i.bytes)) = some (some z, size, bytes))
    (hzs : z.cells.size = size) (hsz : 0 < size) {As : Option Addr} {n cs : Nat} {xs : List Value} (hs : a.eval s = .slice As n cs) (hown : Tail w base e size As n cs xs) (hAs : ∀ b, As = some b → b.block < w.heap.size)
    {A : Option Addr} {m c : Nat} {news : List Value} (hx : a.eval x = .slice A m c) (hr : Sl w size A m c news) (h1 : ∀ u ∈ news, u.oneCell' = true)
    (h63 : n + m ≤ 1000000000000) (hbyt : bytes ≤ 64) (hbase : base ≤ w.heap.size) (h0 : As = none → cs = 0)
    (k : ∀ A' cap' w', Tail w' base e size A' (n + m) cap' (xs ++ news) → Below base w w' → Apart w w' As A' → wpList P ops Q rest (a.put o.dst (.slice A' (n + m) cap')) w') :
    wpList P ops Q (o :: rest) a w :=
  wpList_run hw (run_append_any s x t ho base e ht hinfo hzs hsz hs hown hAs hx hr h1 h63 hbyt hbase h0) fun v w' ⟨A', cap', hv, h2, h3, h4⟩ => by
    subst hv
    exact k A' cap' w' h2 h3 h4
theorem step_append_any {K : Act → World → Prop} {E : Prop} (hw : Region.wanted o (yielded ops a.tmps) = true) (s x : Operand) (t : TypeId) (ho : o.op = .call { callee := .builtin .append, args := #[s, x], argTypes := #[t, t] })
    (base : Nat) (e : TypeId) {z : Value} {size bytes : Nat} (ht : P.underlying t = some (.slice e)) (hinfo : (P.info? e).map (fun i => (i.zero, i.size, i.bytes)) = some (some z, size, bytes))
    (hzs : z.cells.size = size) (hsz : 0 < size) {As : Option Addr} {n cs : Nat} {xs : List Value} (hs : a.eval s = .slice As n cs) (hown : Tail w base e size As n cs xs) (hAs : ∀ b, As = some b → b.block < w.heap.size)
    {A : Option Addr} {m c : Nat} {news : List Value} (hx : a.eval x = .slice A m c) (hr : Sl w size A m c news) (h1 : ∀ u ∈ news, u.oneCell' = true)
    (h63 : n + m ≤ 1000000000000) (hbyt : bytes ≤ 64) (hbase : base ≤ w.heap.size) (h0 : As = none → cs = 0)
    (k : ∀ A' cap' w', Tail w' base e size A' (n + m) cap' (xs ++ news) → Below base w w' → Apart w w' As A' → K (a.put o.dst (.slice A' (n + m) cap')) w') :
    if Region.wanted o (yielded ops a.tmps) = true then o.wp P a w K Q else E :=
  step_of_runA hw (run_append_any s x t ho base e ht hinfo hzs hsz hs hown hAs hx hr h1 h63 hbyt hbase h0) fun v w' ⟨A', cap', hv, h2, h3, h4⟩ => by
    subst hv
    exact k A' cap' w' h2 h3 h4
end
theorem Tail.none_cap {w : World} {base : Nat} {e : TypeId} {size n cap : Nat} {A : Option Addr} {xs : List Value} (h : Tail w base e size A n cap xs) : A = none → cap = 0 := by
  intro hA
  rcases h.form with h0 | ⟨g, off, cur, h1, _⟩
  · exact h0
  · rw [hA] at h1; cases h1
end Go.Proofs.Ytdeaeiolehglaaa
