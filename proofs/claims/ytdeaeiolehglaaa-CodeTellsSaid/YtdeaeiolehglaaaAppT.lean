/- 'append' at a step of a region that draws its order: upon an empty literal, or upon a row of the call's own; and what it leaves as it was. No program in sight. -/
import Derived.Test.YtdeaeiolehglaaaAppO
set_option linter.unusedVariables false
set_option linter.unusedSimpArgs false
namespace Go.Proofs.Ytdeaeiolehglaaa
open Go.RowKit

section
variable {P : Program} {ops : Array Oper} {o : Oper} {a : Act} {w : World} {K : Act → World → Prop} {Q : Exit → Act → World → Prop} {E : Prop}
/-- what an append hands back -/
def AppendedA (w : World) (base : Nat) (e : TypeId) (size n : Nat) (xs : List Value) (As : Option Addr) (v : Value) (w' : World) : Prop :=
  ∃ A' cap', v = .slice A' n cap' ∧ w'.ownsRow base e size (.slice A' n cap') n xs ∧ Below base w w' ∧ Apart w w' As A'
theorem run_append_ap (s x : Operand) (t : TypeId) (ho : o.op = .call { callee := .builtin .append, args := #[s, x], argTypes := #[t, t] })
    (base : Nat) (e : TypeId) {z : Value} {size bytes : Nat} (ht : P.underlying t = some (.slice e)) (hinfo : (P.info? e).map (fun i => (i.zero, i.size, i.bytes)) = some (some z, size, bytes))
    (hzs : z.cells.size = size) (hsz : 0 < size) {As : Option Addr} {n cs : Nat} {xs : List Value} (hs : a.eval s = .slice As n cs) (hown : Own0 w base e size (.slice As n cs) n xs)
    {A : Option Addr} {m c : Nat} {news : List Value} (hx : a.eval x = .slice A m c) (hr : Sl w size A m c news) (h1 : ∀ u ∈ news, u.oneCell' = true) (hm : 0 < m)
    (h63 : n + m ≤ 1000000000000) (hbyt : bytes ≤ 64) (hbase : base ≤ w.heap.size) :
    ∃ v w', (execOp a.eval o).run P w = .ok (.value v) w' ∧ AppendedA w base e size (n + m) (xs ++ news) As v w' := by
  obtain ⟨i, hi, hz, hsize, hby⟩ := info_parts hinfo
  have sl : ∀ {As : Option Addr} {n cs : Nat} {xs : List Value}, a.eval s = .slice As n cs → w.ownsRow base e size (.slice As n cs) n xs → n + m ≤ 1000000000000 → ∃ v w', (execOp a.eval o).run P w = .ok (.value v) w' ∧ AppendedA w base e size (n + m) (xs ++ news) As v w' := by
    intro As n cs xs hs hown h63
    obtain ⟨v', w', hrun, h2, h3, h4⟩ := run_append_sl (P := P) base t o.type e i z size bytes ht hi hz hsize hby hzs hsz _ n xs hown A m c news hr h1 (by simp only [maxLen]; omega)
      (by have : (n + m) * bytes ≤ 1000000000000 * 64 := Nat.mul_le_mul h63 hbyt; omega) hbase
    have hlt := hown.lt
    refine ⟨v', w', by simp only [execOp, ho, resolve, invoke, builtin, Sem.run_bind, Sem.run_pure, Result.andThen_ok, List.map_toArray, List.map_cons, List.map_nil, hs, hx, hrun], ?_⟩
    obtain ⟨A', cap', rfl, _⟩ := Sl.of_own h2 hsz
    refine ⟨A', cap', rfl, h2, (Below.refl base w).grown h3 hbase (fun q hq => (hlt q hq).1), ⟨h3.size, fun g hg hne => h3.block g hg ?_, fun a' ha' => ⟨(Own0.lt h2 a' ha').2, ?_⟩⟩⟩
    · cases As with
      | none => simp [Value.ownBlock]
      | some b => have := hne b rfl; simp [Value.ownBlock]; omega
    · subst ha'
      cases As with
      | none =>
        rcases h4 with h4 | h4
        · simp [Value.ownBlock] at h4
        · right; simp [Value.ownBlock] at h4; omega
      | some b =>
        rcases h4 with h4 | h4
        · left; simp [Value.ownBlock] at h4; exact ⟨b, rfl, h4⟩
        · right; simp [Value.ownBlock] at h4; omega
  rcases hown with ⟨As', he, rfl, rfl⟩ | hown
  · injection he with he1 he2 he3
    subst he1; subst he3
    cases As with
    | none => exact sl hs (World.ownsRow_nil w base e size) h63
    | some b =>
      obtain ⟨b', off, rfl, hlt, hc⟩ := hr.cells hm
      obtain ⟨v', w', hrun, h2, h3⟩ := run_append_arg_grows (P := P) w t o.type e i z size bytes ht hi hz hsize hby hzs hsz b 0 0 [] (by simp) (by simp) ⟨b', off, none⟩ m c news hr.len
        (fun j u hu => by rw [Addr.add_lit]; exact hc j u hu) (by omega) (by simp only [maxLen]; omega) (by have : (0 + m) * bytes ≤ 1000000000000 * 64 := Nat.mul_le_mul h63 hbyt; omega)
      refine ⟨v', w', by simp only [execOp, ho, resolve, invoke, builtin, Sem.run_bind, Sem.run_pure, Result.andThen_ok, List.map_toArray, List.map_cons, List.map_nil, hs, hx, hrun], ?_⟩
      obtain ⟨A', cap', rfl, _⟩ := Sl.of_own h2 hsz
      exact ⟨A', cap', rfl, own_lower h2 hbase, (Below.refl base w).grown h3 hbase (fun q hq => by cases hq), ⟨h3.size, fun g hg _ => h3.block g hg (by simp), fun a' ha' => ⟨(Own0.lt h2 a' ha').2, .inr (Own0.lt h2 a' ha').1⟩⟩⟩
  · exact sl hs hown h63
theorem step_of_runA (hw : Region.wanted o (yielded ops a.tmps) = true) {Φ : Value → World → Prop} (hr : ∃ v w', (execOp a.eval o).run P w = .ok (.value v) w' ∧ Φ v w')
    (k : ∀ v w', Φ v w' → K (a.put o.dst v) w') : if Region.wanted o (yielded ops a.tmps) = true then o.wp P a w K Q else E := by
  obtain ⟨v, w', hr, hp⟩ := hr
  rw [if_pos hw]
  unfold Oper.wp
  rw [hr]
  exact k v w' hp
theorem step_append_ap (hw : Region.wanted o (yielded ops a.tmps) = true) (s x : Operand) (t : TypeId) (ho : o.op = .call { callee := .builtin .append, args := #[s, x], argTypes := #[t, t] })
    (base : Nat) (e : TypeId) {z : Value} {size bytes : Nat} (ht : P.underlying t = some (.slice e)) (hinfo : (P.info? e).map (fun i => (i.zero, i.size, i.bytes)) = some (some z, size, bytes))
    (hzs : z.cells.size = size) (hsz : 0 < size) {As : Option Addr} {n cs : Nat} {xs : List Value} (hs : a.eval s = .slice As n cs) (hown : Own0 w base e size (.slice As n cs) n xs)
    {A : Option Addr} {m c : Nat} {news : List Value} (hx : a.eval x = .slice A m c) (hr : Sl w size A m c news) (h1 : ∀ u ∈ news, u.oneCell' = true) (hm : 0 < m)
    (h63 : n + m ≤ 1000000000000) (hbyt : bytes ≤ 64) (hbase : base ≤ w.heap.size)
    (k : ∀ A' cap' w', w'.ownsRow base e size (.slice A' (n + m) cap') (n + m) (xs ++ news) → Below base w w' → Apart w w' As A' → K (a.put o.dst (.slice A' (n + m) cap')) w') :
    if Region.wanted o (yielded ops a.tmps) = true then o.wp P a w K Q else E :=
  step_of_runA hw (run_append_ap s x t ho base e ht hinfo hzs hsz hs hown hx hr h1 hm h63 hbyt hbase) fun v w' ⟨A', cap', hv, h2, h3, h4⟩ => by
    subst hv
    exact k A' cap' w' h2 h3 h4
end
end Go.Proofs.Ytdeaeiolehglaaa
