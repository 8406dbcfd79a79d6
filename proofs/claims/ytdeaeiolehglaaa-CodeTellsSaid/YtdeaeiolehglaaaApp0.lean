/- 'append' upon an empty literal, or upon a row of the call's own. No program in sight. -/
import Derived.ArgAppend
import Derived.Test.YtdeaeiolehglaaaLaw
set_option linter.unusedVariables false
set_option linter.unusedSimpArgs false
namespace Go.Proofs.Ytdeaeiolehglaaa
open Go.RowKit

section
variable {P : Program} {ops : Array Oper} {rest : List Oper} {o : Oper} {a : Act} {w : World} {Q : Exit → Act → World → Prop}
/-- an empty slice without room, wherever it lies, or a row of the call's own -/
def Own0 (w : World) (base : Nat) (e : TypeId) (size : Nat) (v : Value) (n : Nat) (xs : List Value) : Prop :=
  (∃ A, v = .slice A 0 0 ∧ n = 0 ∧ xs = []) ∨ w.ownsRow base e size v n xs
theorem own_lower {w : World} {base base' : Nat} {e : TypeId} {size : Nat} {v : Value} {n : Nat} {xs : List Value} (h : w.ownsRow base e size v n xs) (hb : base' ≤ base) : w.ownsRow base' e size v n xs := by
  refine ⟨h.1, ?_⟩
  rcases h.2 with h2 | ⟨g, cap, cur, hv, hg, r⟩
  · exact Or.inl h2
  · exact Or.inr ⟨g, cap, cur, hv, by omega, r⟩
theorem Own0.below {w w' : World} {base : Nat} {e : TypeId} {size : Nat} {v : Value} {n : Nat} {xs : List Value} (h : Own0 w base e size v n xs) (hb : Below w.heap.size w w') : Own0 w' base e size v n xs := by
  rcases h with h | h
  · exact .inl h
  · exact .inr (own_below h hb)
theorem Own0.sl {w : World} {base size n cap : Nat} {e : TypeId} {A : Option Addr} {xs : List Value} (h : Own0 w base e size (.slice A n cap) n xs) (hs : 0 < size) : Sl w size A n cap xs := by
  rcases h with ⟨A', he, rfl, rfl⟩ | h
  · injection he with _ _ h3
    subst h3
    exact ⟨by simp, Nat.le_refl _, by simp [maxLen], fun h => absurd h (by omega)⟩
  · exact Sl.own h hs
theorem wpList_append_own0 (hw : Region.wanted o (yielded ops a.tmps) = true) (s x : Operand) (t : TypeId) (ho : o.op = .call { callee := .builtin .append, args := #[s, x], argTypes := #[t, t] })
    (base : Nat) (e : TypeId) {z : Value} {size bytes : Nat} (ht : P.underlying t = some (.slice e)) (hinfo : (P.info? e).map (fun i => (i.zero, i.size, i.bytes)) = some (some z, size, bytes))
    (hzs : z.cells.size = size) (hsz : 0 < size) {v : Value} {n : Nat} {xs : List Value} (hs : a.eval s = v) (hown : Own0 w base e size v n xs)
    {A : Option Addr} {m c : Nat} {news : List Value} (hx : a.eval x = .slice A m c) (hr : Sl w size A m c news) (h1 : ∀ u ∈ news, u.oneCell' = true) (hm : 0 < m)
    (h63 : n + m ≤ 1000000000000) (hbyt : bytes ≤ 64) (hbase : base ≤ w.heap.size)
    (k : ∀ A' cap' w', w'.ownsRow base e size (.slice A' (n + m) cap') (n + m) (xs ++ news) → Below base w w' → wpList P ops Q rest (a.put o.dst (.slice A' (n + m) cap')) w') :
    wpList P ops Q (o :: rest) a w := by
  rcases hown with ⟨As, rfl, rfl, rfl⟩ | hown
  · cases As with
    | none => exact wpList_append_sl hw s x t ho base e ht hinfo hzs hsz hs (World.ownsRow_nil w base e size) hx hr h1 h63 hbyt hbase fun A' cap' w' h2 h3 _ _ => k A' cap' w' h2 h3
    | some b =>
      obtain ⟨i, hi, hz, hsize, hby⟩ := info_parts hinfo
      obtain ⟨b', off, rfl, hlt, hc⟩ := hr.cells hm
      obtain ⟨v', w', hrun, h2, h3⟩ := run_append_arg_grows (P := P) w t o.type e i z size bytes ht hi hz hsize hby hzs hsz b 0 0 [] (by simp) (by simp) ⟨b', off, none⟩ m c news hr.len
        (fun j u hu => by rw [Addr.add_lit]; exact hc j u hu) (by omega) (by simp only [maxLen]; omega) (by have : (0 + m) * bytes ≤ 1000000000000 * 64 := Nat.mul_le_mul h63 hbyt; omega)
      refine wpList_run (Φ := fun v' w' => w'.ownsRow w.heap.size e size v' (0 + m) ([] ++ news) ∧ w.grownBy w' none) hw ⟨v', w', ?_, h2, h3⟩ ?_
      · simp only [execOp, ho, resolve, invoke, builtin, Sem.run_bind, Sem.run_pure, Result.andThen_ok, List.map_toArray, List.map_cons, List.map_nil, hs, hx, hrun]
      · rintro v2 w2 ⟨g1, g2⟩
        obtain ⟨A', cap', rfl, _⟩ := Sl.of_own g1 hsz
        exact k A' cap' w2 (own_lower g1 hbase) ((Below.refl base w).grown g2 hbase (fun q hq => by cases hq))
  · exact wpList_append_sl hw s x t ho base e ht hinfo hzs hsz hs hown hx hr h1 h63 hbyt hbase fun A' cap' w' h2 h3 _ _ => k A' cap' w' h2 h3
end
end Go.Proofs.Ytdeaeiolehglaaa
