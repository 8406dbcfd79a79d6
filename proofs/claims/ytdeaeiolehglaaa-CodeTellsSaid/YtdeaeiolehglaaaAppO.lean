/- A row that another one is no part of, kept over an append. No program in sight. -/
import Derived.Test.YtdeaeiolehglaaaApp0
set_option linter.unusedVariables false
set_option linter.unusedSimpArgs false
namespace Go.Proofs.Ytdeaeiolehglaaa
open Go.RowKit

/-- what an append to a row of the call's own leaves as it was -/
structure Apart (w w' : World) (As A' : Option Addr) : Prop where
  size : w.heap.size ≤ w'.heap.size
  old : ∀ g, g < w.heap.size → (∀ a, As = some a → a.block ≠ g) → w'.heap[g]? = w.heap[g]?
  blk : ∀ a', A' = some a' → a'.block < w'.heap.size ∧ ((∃ a, As = some a ∧ a'.block = a.block) ∨ w.heap.size ≤ a'.block)
theorem Sl.apart {w w' : World} {As A' A : Option Addr} {size n c : Nat} {xs : List Value} (h : Sl w size A n c xs) (hp : Apart w w' As A') (hs : ∀ a a', As = some a → A = some a' → a.block ≠ a'.block) : Sl w' size A n c xs := by
  refine ⟨h.len, h.hcap, h.hmax, fun hn => ?_⟩
  obtain ⟨b, off, rfl, hb, hc⟩ := h.cells hn
  refine ⟨b, off, rfl, Nat.lt_of_lt_of_le hb hp.size, fun j u hu => ?_⟩
  rw [← hc j u hu]
  exact World.cell?_of_block (hp.old b hb fun a ha => hs a _ ha rfl)
theorem IsI.apart {w w' : World} {As A' A : Option Addr} {n c : Nat} {xs : List Int} (h : IsI w A n c xs) (hp : Apart w w' As A') (hs : ∀ a a', As = some a → A = some a' → a.block ≠ a'.block) : IsI w' A n c xs := ⟨h.sl.apart hp hs, h.wf⟩
theorem IsC.apart {w w' : World} {As A' A : Option Addr} {n c : Nat} {xs : List C} (h : IsC w A n c xs) (hp : Apart w w' As A') (hs : ∀ a a', As = some a → A = some a' → a.block ≠ a'.block) : IsC w' A n c xs := ⟨h.sl.apart hp hs, h.wf⟩
theorem Own0.lt {w : World} {base size n m cap : Nat} {e : TypeId} {A : Option Addr} {xs : List Value} (h : w.ownsRow base e size (.slice A m cap) n xs) : ∀ a, A = some a → base ≤ a.block ∧ a.block < w.heap.size := fun a ha => by
  subst ha
  exact h.lt _ rfl

section
variable {P : Program} {ops : Array Oper} {rest : List Oper} {o : Oper} {a : Act} {w : World} {Q : Exit → Act → World → Prop}
theorem wpList_append_own1 (hw : Region.wanted o (yielded ops a.tmps) = true) (s x : Operand) (t : TypeId) (ho : o.op = .call { callee := .builtin .append, args := #[s, x], argTypes := #[t, t] })
    (base : Nat) (e : TypeId) {z : Value} {size bytes : Nat} (ht : P.underlying t = some (.slice e)) (hinfo : (P.info? e).map (fun i => (i.zero, i.size, i.bytes)) = some (some z, size, bytes))
    (hzs : z.cells.size = size) (hsz : 0 < size) {As : Option Addr} {n cs : Nat} {xs : List Value} (hs : a.eval s = .slice As n cs) (hown : Own0 w base e size (.slice As n cs) n xs)
    {A : Option Addr} {m c : Nat} {news : List Value} (hx : a.eval x = .slice A m c) (hr : Sl w size A m c news) (h1 : ∀ u ∈ news, u.oneCell' = true) (hm : 0 < m)
    (h63 : n + m ≤ 1000000000000) (hbyt : bytes ≤ 64) (hbase : base ≤ w.heap.size)
    (k : ∀ A' cap' w', w'.ownsRow base e size (.slice A' (n + m) cap') (n + m) (xs ++ news) → Below base w w' → Apart w w' As A' → wpList P ops Q rest (a.put o.dst (.slice A' (n + m) cap')) w') :
    wpList P ops Q (o :: rest) a w := by
  have sl : ∀ {As : Option Addr} {n cs : Nat} {xs : List Value}, a.eval s = .slice As n cs → w.ownsRow base e size (.slice As n cs) n xs → n + m ≤ 1000000000000 → (∀ A' cap' w', w'.ownsRow base e size (.slice A' (n + m) cap') (n + m) (xs ++ news) → Below base w w' → Apart w w' As A' → wpList P ops Q rest (a.put o.dst (.slice A' (n + m) cap')) w') → wpList P ops Q (o :: rest) a w := by
    intro As n cs xs hs hown h63 k
    refine wpList_append_sl hw s x t ho base e ht hinfo hzs hsz hs hown hx hr h1 h63 hbyt hbase fun A' cap' w' h2 h3 h4 h5 => k A' cap' w' h2 h3 ⟨h4.size, fun g hg hne => h4.block g hg ?_, fun a' ha' => ⟨(Own0.lt h2 a' ha').2, ?_⟩⟩
    · cases As with
      | none => simp [Value.ownBlock]
      | some b => have := hne b rfl; simp [Value.ownBlock]; omega
    · subst ha'
      cases As with
      | none =>
        rcases h5 with h5 | h5
        · simp [Value.ownBlock] at h5
        · right; simp [Value.ownBlock] at h5; omega
      | some b =>
        rcases h5 with h5 | h5
        · left; simp [Value.ownBlock] at h5; exact ⟨b, rfl, h5⟩
        · right; simp [Value.ownBlock] at h5; omega
  rcases hown with ⟨As', he, rfl, rfl⟩ | hown
  · injection he with he1 he2 he3
    subst he1; subst he3
    cases As with
    | none => exact sl hs (World.ownsRow_nil w base e size) h63 k
    | some b =>
      obtain ⟨i, hi, hz, hsize, hby⟩ := info_parts hinfo
      obtain ⟨b', off, rfl, hlt, hc⟩ := hr.cells hm
      obtain ⟨v', w', hrun, h2, h3⟩ := run_append_arg_grows (P := P) w t o.type e i z size bytes ht hi hz hsize hby hzs hsz b 0 0 [] (by simp) (by simp) ⟨b', off, none⟩ m c news hr.len
        (fun j u hu => by rw [Addr.add_lit]; exact hc j u hu) (by omega) (by simp only [maxLen]; omega) (by have : (0 + m) * bytes ≤ 1000000000000 * 64 := Nat.mul_le_mul h63 hbyt; omega)
      refine wpList_run (Φ := fun v' w' => w'.ownsRow w.heap.size e size v' (0 + m) ([] ++ news) ∧ w.grownBy w' none) hw ⟨v', w', ?_, h2, h3⟩ ?_
      · simp only [execOp, ho, resolve, invoke, builtin, Sem.run_bind, Sem.run_pure, Result.andThen_ok, List.map_toArray, List.map_cons, List.map_nil, hs, hx, hrun]
      · rintro v2 w2 ⟨g1, g2⟩
        obtain ⟨A', cap', rfl, _⟩ := Sl.of_own g1 hsz
        exact k A' cap' w2 (own_lower g1 hbase) ((Below.refl base w).grown g2 hbase (fun q hq => by cases hq)) ⟨g2.size, fun g hg _ => g2.block g hg (by simp), fun a' ha' => ⟨(Own0.lt g1 a' ha').2, .inr (Own0.lt g1 a' ha').1⟩⟩
  · exact sl hs hown h63 k
end
end Go.Proofs.Ytdeaeiolehglaaa
