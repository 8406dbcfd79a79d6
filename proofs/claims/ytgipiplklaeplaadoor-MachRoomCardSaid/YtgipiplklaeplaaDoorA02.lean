/- Texts of this proof that belong together: words of memory, plain laws, walks. -/
import Derived.Test.YtgipiplklaeplaaDoorA01
set_option linter.unusedVariables false
set_option linter.unusedSimpArgs false
namespace Go.Proofs.YtgipiplklaeplaaDoor
open Go.RowKit
/-- what an append to a row of the call's own leaves as it was -/
structure Apart (w w' : World) (As A' : Option Addr) : Prop where
  size : w.heap.size ≤ w'.heap.size
  old : ∀ g, g < w.heap.size → (∀ a, As = some a → a.block ≠ g) → w'.heap[g]? = w.heap[g]?
  blk : ∀ a', A' = some a' → a'.block < w'.heap.size ∧ ((∃ a, As = some a ∧ a'.block = a.block) ∨ w.heap.size ≤ a'.block)
theorem Sl.apart {w w' : World} {As A' A : Option Addr} {size n c : Nat} {xs : List Value} (h : Sl w size A n c xs) (hp : Apart w w' As A') (hs : ∀ a a', As = some a → A = some a' → a.block ≠ a'.block) : Sl w' size A n c xs := by
  refine ⟨h.len, h.hcap, h.hmax, fun hn => ?_⟩
  obtain ⟨b, off, rfl, hb, hc⟩ := h.cells hn
  refine ⟨b, off, rfl, Nat.lt_of_lt_of_le hb hp.size, fun j u hu => ?_⟩
  rw [← hc j u hu]
  exact World.cell?_of_block (hp.old b hb fun a ha => hs a _ ha rfl)
theorem IsI.apart {w w' : World} {As A' A : Option Addr} {n c : Nat} {xs : List Int} (h : IsI w A n c xs) (hp : Apart w w' As A') (hs : ∀ a a', As = some a → A = some a' → a.block ≠ a'.block) : IsI w' A n c xs := ⟨h.sl.apart hp hs, h.wf⟩
theorem IsC.apart {w w' : World} {As A' A : Option Addr} {n c : Nat} {xs : List C} (h : IsC w A n c xs) (hp : Apart w w' As A') (hs : ∀ a a', As = some a → A = some a' → a.block ≠ a'.block) : IsC w' A n c xs := ⟨h.sl.apart hp hs, h.wf⟩
theorem Own0.lt {w : World} {base size n m cap : Nat} {e : TypeId} {A : Option Addr} {xs : List Value} (h : w.ownsRow base e size (.slice A m cap) n xs) : ∀ a, A = some a → base ≤ a.block ∧ a.block < w.heap.size := fun a ha => by
  subst ha
  exact h.lt _ rfl
section
variable {P : Program} {ops : Array Oper} {rest : List Oper} {o : Oper} {a : Act} {w : World} {Q : Exit → Act → World → Prop}
theorem wpList_append_own1 (hw : Region.wanted o (yielded ops a.tmps) = true) (s x : Operand) (t : TypeId) (ho : o.op = .call { callee := .builtin .append, args := #[s, x], argTypes := #[t, t] })
    (base : Nat) (e : TypeId) {z : Value} {size bytes : Nat} (ht : P.underlying t = some (.slice e)) (hinfo : (P.info? e).map (fun i => (i.zero, i.size, i.bytes)) = some (some z, size, bytes))
    (hzs : z.cells.size = size) (hsz : 0 < size) {As : Option Addr} {n cs : Nat} {xs : List Value} (hs : a.eval s = .slice As n cs) (hown : Own0 w base e size (.slice As n cs) n xs)
    {A : Option Addr} {m c : Nat} {news : List Value} (hx : a.eval x = .slice A m c) (hr : Sl w size A m c news) (h1 : ∀ u ∈ news, u.oneCell' = true) (hm : 0 < m)
    (h63 : n + m ≤ 1000000000000) (hbyt : bytes ≤ 64) (hbase : base ≤ w.heap.size)
    (k : ∀ A' cap' w', w'.ownsRow base e size (.slice A' (n + m) cap') (n + m) (xs ++ news) → Below base w w' → Apart w w' As A' → wpList P ops Q rest (a.put o.dst (.slice A' (n + m) cap')) w') :
    wpList P ops Q (o :: rest) a w := by
  have sl : ∀ {As : Option Addr} {n cs : Nat} {xs : List Value}, a.eval s = .slice As n cs → w.ownsRow base e size (.slice As n cs) n xs → n + m ≤ 1000000000000 → (∀ A' cap' w', w'.ownsRow base e size (.slice A' (n + m) cap') (n + m) (xs ++ news) → Below base w w' → Apart w w' As A' → wpList P ops Q rest (a.put o.dst (.slice A' (n + m) cap')) w') → wpList P ops Q (o :: rest) a w := by
    intro As n cs xs hs hown h63 k
    refine wpList_append_sl hw s x t ho base e ht hinfo hzs hsz hs hown hx hr h1 h63 hbyt hbase fun A' cap' w' h2 h3 h4 h5 => k A' cap' w' h2 h3 ⟨h4.size, fun g hg hne => h4.block g hg ?_, fun a' ha' => ⟨(Own0.lt h2 a' ha').2, ?_⟩⟩
    · cases As with
      | none => simp [Value.ownBlock]
      | some b => have := hne b rfl; simp [Value.ownBlock]; omega
    · subst ha'
      cases As with
      | none =>
        rcases h5 with h5 | h5
        · simp [Value.ownBlock] at h5
        · right; simp [Value.ownBlock] at h5; omega
      | some b =>
        rcases h5 with h5 | h5
        · left; simp [Value.ownBlock] at h5; exact ⟨b, rfl, h5⟩
        · right; simp [Value.ownBlock] at h5; omega
  rcases hown with ⟨As', he, rfl, rfl⟩ | hown
  · injection he with he1 he2 he3
    subst he1; subst he3
    cases As with
    | none => exact sl hs (World.ownsRow_nil w base e size) h63 k
    | some b =>
      obtain ⟨i, hi, hz, hsize, hby⟩ := info_parts hinfo
      obtain ⟨b', off, rfl, hlt, hc⟩ := hr.cells hm
      obtain ⟨v', w', hrun, h2, h3⟩ := run_append_arg_grows (P := P) w t o.type e i z size bytes ht hi hz hsize hby hzs hsz b 0 0 [] (by simp) (by simp) ⟨b', off, none⟩ m c news hr.len
        (fun j u hu => by rw [Addr.add_lit]; exact hc j u hu) (by omega) (by simp only [maxLen]; omega) (by have : (0 + m) * bytes ≤ 1000000000000 * 64 := Nat.mul_le_mul h63 hbyt; omega)
      refine wpList_run (Φ := fun v' w' => w'.ownsRow w.heap.size e size v' (0 + m) ([] ++ news) ∧ w.grownBy w' none) hw ⟨v', w', ?_, h2, h3⟩ ?_
      · simp only [execOp, ho, resolve, invoke, builtin, Sem.run_bind, Sem.run_pure, Result.andThen_ok, List.map_toArray, List.map_cons, List.map_nil, hs, hx, hrun]
      · rintro v2 w2 ⟨g1, g2⟩
        obtain ⟨A', cap', rfl, _⟩ := Sl.of_own g1 hsz
        exact k A' cap' w2 (own_lower g1 hbase) ((Below.refl base w).grown g2 hbase (fun q hq => by cases hq)) ⟨g2.size, fun g hg _ => g2.block g hg (by simp), fun a' ha' => ⟨(Own0.lt g1 a' ha').2, .inr (Own0.lt g1 a' ha').1⟩⟩
  · exact sl hs hown h63 k
end
end Go.Proofs.YtgipiplklaeplaaDoor
namespace Go.Proofs.YtgipiplklaeplaaDoor
open Go.RowKit
section
variable {P : Program} {ops : Array Oper} {o : Oper} {a : Act} {w : World} {K : Act → World → Prop} {Q : Exit → Act → World → Prop} {E : Prop}
/-- what an append hands back -/
def AppendedA (w : World) (base : Nat) (e : TypeId) (size n : Nat) (xs : List Value) (As : Option Addr) (v : Value) (w' : World) : Prop :=
  ∃ A' cap', v = .slice A' n cap' ∧ w'.ownsRow base e size (.slice A' n cap') n xs ∧ Below base w w' ∧ Apart w w' As A'
theorem run_append_ap (s x : Operand) (t : TypeId) (ho : o.op = .call { callee := .builtin .append, args := #[s, x], argTypes := #[t, t] })
    (base : Nat) (e : TypeId) {z : Value} {size bytes : Nat} (ht : P.underlying t = some (.slice e)) (hinfo : (P.info? e).map (fun i => (i.zero, i.size, i.bytes)) = some (some z, size, bytes))
    (hzs : z.cells.size = size) (hsz : 0 < size) {As : Option Addr} {n cs : Nat} {xs : List Value} (hs : a.eval s = .slice As n cs) (hown : Own0 w base e size (.slice As n cs) n xs)
    {A : Option Addr} {m c : Nat} {news : List Value} (hx : a.eval x = .slice A m c) (hr : Sl w size A m c news) (h1 : ∀ u ∈ news, u.oneCell' = true) (hm : 0 < m)
    (h63 : n + m ≤ 1000000000000) (hbyt : bytes ≤ 64) (hbase : base ≤ w.heap.size) :
    ∃ v w', (execOp a.eval o).run P w = .ok (.value v) w' ∧ AppendedA w base e size (n + m) (xs ++ news) As v w' := by
  obtain ⟨i, hi, hz, hsize, hby⟩ := info_parts hinfo
  have sl : ∀ {As : Option Addr} {n cs : Nat} {xs : List Value}, a.eval s = .slice As n cs → w.ownsRow base e size (.slice As n cs) n xs → n + m ≤ 1000000000000 → ∃ v w', (execOp a.eval o).run P w = .ok (.value v) w' ∧ AppendedA w base e size (n + m) (xs ++ news) As v w' := by
    intro As n cs xs hs hown h63
    obtain ⟨v', w', hrun, h2, h3, h4⟩ := run_append_sl (P := P) base t o.type e i z size bytes ht hi hz hsize hby hzs hsz _ n xs hown A m c news hr h1 (by simp only [maxLen]; omega)
      (by have : (n + m) * bytes ≤ 1000000000000 * 64 := Nat.mul_le_mul h63 hbyt; omega) hbase
    have hlt := hown.lt
    refine ⟨v', w', by simp only [execOp, ho, resolve, invoke, builtin, Sem.run_bind, Sem.run_pure, Result.andThen_ok, List.map_toArray, List.map_cons, List.map_nil, hs, hx, hrun], ?_⟩
    obtain ⟨A', cap', rfl, _⟩ := Sl.of_own h2 hsz
    refine ⟨A', cap', rfl, h2, (Below.refl base w).grown h3 hbase (fun q hq => (hlt q hq).1), ⟨h3.size, fun g hg hne => h3.block g hg ?_, fun a' ha' => ⟨(Own0.lt h2 a' ha').2, ?_⟩⟩⟩
    · cases As with
      | none => simp [Value.ownBlock]
      | some b => have := hne b rfl; simp [Value.ownBlock]; omega
    · subst ha'
      cases As with
      | none =>
        rcases h4 with h4 | h4
        · simp [Value.ownBlock] at h4
        · right; simp [Value.ownBlock] at h4; omega
      | some b =>
        rcases h4 with h4 | h4
        · left; simp [Value.ownBlock] at h4; exact ⟨b, rfl, h4⟩
        · right; simp [Value.ownBlock] at h4; omega
  rcases hown with ⟨As', he, rfl, rfl⟩ | hown
  · injection he with he1 he2 he3
    subst he1; subst he3
    cases As with
    | none => exact sl hs (World.ownsRow_nil w base e size) h63
    | some b =>
      obtain ⟨b', off, rfl, hlt, hc⟩ := hr.cells hm
      obtain ⟨v', w', hrun, h2, h3⟩ := run_append_arg_grows (P := P) w t o.type e i z size bytes ht hi hz hsize hby hzs hsz b 0 0 [] (by simp) (by simp) ⟨b', off, none⟩ m c news hr.len
        (fun j u hu => by rw [Addr.add_lit]; exact hc j u hu) (by omega) (by simp only [maxLen]; omega) (by have : (0 + m) * bytes ≤ 1000000000000 * 64 := Nat.mul_le_mul h63 hbyt; omega)
      refine ⟨v', w', by simp only [execOp, ho, resolve, invoke, builtin, Sem.run_bind, Sem.run_pure, Result.andThen_ok, List.map_toArray, List.map_cons, List.map_nil, hs, hx, hrun], ?_⟩
      obtain ⟨A', cap', rfl, _⟩ := Sl.of_own h2 hsz
      exact ⟨A', cap', rfl, own_lower h2 hbase, (Below.refl base w).grown h3 hbase (fun q hq => by cases hq), ⟨h3.size, fun g hg _ => h3.block g hg (by simp), fun a' ha' => ⟨(Own0.lt h2 a' ha').2, .inr (Own0.lt h2 a' ha').1⟩⟩⟩
  · exact sl hs hown h63
theorem step_of_runA (hw : Region.wanted o (yielded ops a.tmps) = true) {Φ : Value → World → Prop} (hr : ∃ v w', (execOp a.eval o).run P w = .ok (.value v) w' ∧ Φ v w')
    (k : ∀ v w', Φ v w' → K (a.put o.dst v) w') : if Region.wanted o (yielded ops a.tmps) = true then o.wp P a w K Q else E := by
  obtain ⟨v, w', hr, hp⟩ := hr
  rw [if_pos hw]
  unfold Oper.wp
  rw [hr]
  exact k v w' hp
theorem step_append_ap (hw : Region.wanted o (yielded ops a.tmps) = true) (s x : Operand) (t : TypeId) (ho : o.op = .call { callee := .builtin .append, args := #[s, x], argTypes := #[t, t] })
    (base : Nat) (e : TypeId) {z : Value} {size bytes : Nat} (ht : P.underlying t = some (.slice e)) (hinfo : (P.info? e).map (fun i => (i.zero, i.size, i.bytes)) = some (some z, size, bytes))
    (hzs : z.cells.size = size) (hsz : 0 < size) {As : Option Addr} {n cs : Nat} {xs : List Value} (hs : a.eval s = .slice As n cs) (hown : Own0 w base e size (.slice As n cs) n xs)
    {A : Option Addr} {m c : Nat} {news : List Value} (hx : a.eval x = .slice A m c) (hr : Sl w size A m c news) (h1 : ∀ u ∈ news, u.oneCell' = true) (hm : 0 < m)
    (h63 : n + m ≤ 1000000000000) (hbyt : bytes ≤ 64) (hbase : base ≤ w.heap.size)
    (k : ∀ A' cap' w', w'.ownsRow base e size (.slice A' (n + m) cap') (n + m) (xs ++ news) → Below base w w' → Apart w w' As A' → K (a.put o.dst (.slice A' (n + m) cap')) w') :
    if Region.wanted o (yielded ops a.tmps) = true then o.wp P a w K Q else E :=
  step_of_runA hw (run_append_ap s x t ho base e ht hinfo hzs hsz hs hown hx hr h1 hm h63 hbyt hbase) fun v w' ⟨A', cap', hv, h2, h3, h4⟩ => by
    subst hv
    exact k A' cap' w' h2 h3 h4
end
end Go.Proofs.YtgipiplklaeplaaDoor
namespace Go.Proofs.YtgipiplklaeplaaDoor
open Go.RowKit
structure ApartZ (w w' : World) (As : Option Addr) (cs : Nat) (A' : Option Addr) : Prop where
  size : w.heap.size ≤ w'.heap.size
  old : ∀ g, g < w.heap.size → (0 < cs → ∀ a, As = some a → a.block ≠ g) → w'.heap[g]? = w.heap[g]?
  blk : ∀ a', A' = some a' → a'.block < w'.heap.size ∧ ((∃ a, As = some a ∧ 0 < cs ∧ a'.block = a.block) ∨ w.heap.size ≤ a'.block)
theorem own_capz {w : World} {base size n : Nat} {e : TypeId} {A : Option Addr} {xs : List Value} (h : Own0 w base e size (.slice A n 0) n xs) : n = 0 ∧ xs = [] := by
  rcases h with ⟨A', he, h1, h2⟩ | h
  · exact ⟨h1, h2⟩
  · have hl := h.1
    rcases h.2 with ⟨h1, h2⟩ | ⟨g, cap, cur, h1, _, _, h2, _⟩
    · subst h2; simp at hl; exact ⟨rfl, hl⟩
    · injection h1 with e1 e2 e3
      subst e3
      have : n = 0 := by omega
      subst this
      simp at hl
      exact ⟨rfl, hl⟩
section
variable {P : Program} {ops : Array Oper} {rest : List Oper} {o : Oper} {a : Act} {w : World} {K : Act → World → Prop} {Q : Exit → Act → World → Prop} {E : Prop}
def AppendedZ (w : World) (base : Nat) (e : TypeId) (size n : Nat) (xs : List Value) (As : Option Addr) (cs : Nat) (v : Value) (w' : World) : Prop :=
  ∃ A' cap', v = .slice A' n cap' ∧ w'.ownsRow base e size (.slice A' n cap') n xs ∧ Below base w w' ∧ ApartZ w w' As cs A'
theorem run_append_z (s x : Operand) (t : TypeId) (ho : o.op = .call { callee := .builtin .append, args := #[s, x], argTypes := #[t, t] })
    (base : Nat) (e : TypeId) {z : Value} {size bytes : Nat} (ht : P.underlying t = some (.slice e)) (hinfo : (P.info? e).map (fun i => (i.zero, i.size, i.bytes)) = some (some z, size, bytes))
    (hzs : z.cells.size = size) (hsz : 0 < size) {As : Option Addr} {n cs : Nat} {xs : List Value} (hs : a.eval s = .slice As n cs) (hown : Own0 w base e size (.slice As n cs) n xs)
    {A : Option Addr} {m c : Nat} {news : List Value} (hx : a.eval x = .slice A m c) (hr : Sl w size A m c news) (h1 : ∀ u ∈ news, u.oneCell' = true) (hm : 0 < m)
    (h63 : n + m ≤ 1000000000000) (hbyt : bytes ≤ 64) (hbase : base ≤ w.heap.size) :
    ∃ v w', (execOp a.eval o).run P w = .ok (.value v) w' ∧ AppendedZ w base e size (n + m) (xs ++ news) As cs v w' := by
  rcases Nat.eq_zero_or_pos cs with h0 | h0
  · subst h0
    obtain ⟨rfl, rfl⟩ := own_capz hown
    cases As with
    | none =>
      obtain ⟨v, w', hrun, A', cap', rfl, h2, h3, h4⟩ := run_append_ap s x t ho base e ht hinfo hzs hsz hs (.inl ⟨none, rfl, rfl, rfl⟩) hx hr h1 hm h63 hbyt hbase
      exact ⟨_, w', hrun, A', cap', rfl, h2, h3, ⟨h4.size, fun g hg _ => h4.old g hg (by simp), fun a' ha' => ⟨(h4.blk a' ha').1, by
        rcases (h4.blk a' ha').2 with ⟨a, ha, _⟩ | h5
        · cases ha
        · exact .inr h5⟩⟩⟩
    | some b =>
      obtain ⟨i, hi, hz, hsize, hby⟩ := info_parts hinfo
      obtain ⟨b', off, rfl, hlt, hc⟩ := hr.cells hm
      obtain ⟨v', w', hrun, h2, h3⟩ := run_append_arg_grows (P := P) w t o.type e i z size bytes ht hi hz hsize hby hzs hsz b 0 0 [] (by simp) (by simp) ⟨b', off, none⟩ m c news hr.len
        (fun j u hu => by rw [Addr.add_lit]; exact hc j u hu) (by omega) (by simp only [maxLen]; omega) (by have : (0 + m) * bytes ≤ 1000000000000 * 64 := Nat.mul_le_mul h63 hbyt; omega)
      refine ⟨v', w', by simp only [execOp, ho, resolve, invoke, builtin, Sem.run_bind, Sem.run_pure, Result.andThen_ok, List.map_toArray, List.map_cons, List.map_nil, hs, hx, hrun], ?_⟩
      obtain ⟨A', cap', rfl, _⟩ := Sl.of_own h2 hsz
      exact ⟨A', cap', rfl, own_lower h2 hbase, (Below.refl base w).grown h3 hbase (fun q hq => by cases hq), ⟨h3.size, fun g hg _ => h3.block g hg (by simp), fun a' ha' => ⟨(Own0.lt h2 a' ha').2, .inr (Own0.lt h2 a' ha').1⟩⟩⟩
  · obtain ⟨v, w', hrun, A', cap', rfl, h2, h3, h4⟩ := run_append_ap s x t ho base e ht hinfo hzs hsz hs hown hx hr h1 hm h63 hbyt hbase
    exact ⟨_, w', hrun, A', cap', rfl, h2, h3, ⟨h4.size, fun g hg hne => h4.old g hg (hne h0), fun a' ha' => ⟨(h4.blk a' ha').1, by
      rcases (h4.blk a' ha').2 with ⟨a, ha, h5⟩ | h5
      · exact .inl ⟨a, ha, h0, h5⟩
      · exact .inr h5⟩⟩⟩
theorem step_append_z (hw : Region.wanted o (yielded ops a.tmps) = true) (s x : Operand) (t : TypeId) (ho : o.op = .call { callee := .builtin .append, args := #[s, x], argTypes := #[t, t] })
    (base : Nat) (e : TypeId) {z : Value} {size bytes : Nat} (ht : P.underlying t = some (.slice e)) (hinfo : (P.info? e).map (fun i => (i.zero, i.size, i.bytes)) = some (some z, size, bytes))
    (hzs : z.cells.size = size) (hsz : 0 < size) {As : Option Addr} {n cs : Nat} {xs : List Value} (hs : a.eval s = .slice As n cs) (hown : Own0 w base e size (.slice As n cs) n xs)
    {A : Option Addr} {m c : Nat} {news : List Value} (hx : a.eval x = .slice A m c) (hr : Sl w size A m c news) (h1 : ∀ u ∈ news, u.oneCell' = true) (hm : 0 < m)
    (h63 : n + m ≤ 1000000000000) (hbyt : bytes ≤ 64) (hbase : base ≤ w.heap.size)
    (k : ∀ A' cap' w', w'.ownsRow base e size (.slice A' (n + m) cap') (n + m) (xs ++ news) → Below base w w' → ApartZ w w' As cs A' → K (a.put o.dst (.slice A' (n + m) cap')) w') :
    if Region.wanted o (yielded ops a.tmps) = true then o.wp P a w K Q else E :=
  step_of_runA hw (run_append_z s x t ho base e ht hinfo hzs hsz hs hown hx hr h1 hm h63 hbyt hbase) fun v w' ⟨A', cap', hv, h2, h3, h4⟩ => by
    subst hv
    exact k A' cap' w' h2 h3 h4
theorem wpList_append_z (hw : Region.wanted o (yielded ops a.tmps) = true) (s x : Operand) (t : TypeId) (ho : o.op = .call { callee := .builtin .append, args := #[s, x], argTypes := #[t, t] })
    (base : Nat) (e : TypeId) {z : Value} {size bytes : Nat} (ht : P.underlying t = some (.slice e)) (hinfo : (P.info? e).map (fun i => (i.zero, i.size, i.bytes)) = some (some z, size, bytes))
    (hzs : z.cells.size = size) (hsz : 0 < size) {As : Option Addr} {n cs : Nat} {xs : List Value} (hs : a.eval s = .slice As n cs) (hown : Own0 w base e size (.slice As n cs) n xs)
    {A : Option Addr} {m c : Nat} {news : List Value} (hx : a.eval x = .slice A m c) (hr : Sl w size A m c news) (h1 : ∀ u ∈ news, u.oneCell' = true) (hm : 0 < m)
    (h63 : n + m ≤ 1000000000000) (hbyt : bytes ≤ 64) (hbase : base ≤ w.heap.size)
    (k : ∀ A' cap' w', w'.ownsRow base e size (.slice A' (n + m) cap') (n + m) (xs ++ news) → Below base w w' → ApartZ w w' As cs A' → wpList P ops Q rest (a.put o.dst (.slice A' (n + m) cap')) w') :
    wpList P ops Q (o :: rest) a w :=
  wpList_run hw (run_append_z s x t ho base e ht hinfo hzs hsz hs hown hx hr h1 hm h63 hbyt hbase) fun v w' ⟨A', cap', hv, h2, h3, h4⟩ => by
    subst hv
    exact k A' cap' w' h2 h3 h4
end
end Go.Proofs.YtgipiplklaeplaaDoor
namespace Go.Proofs.YtgipiplklaeplaaDoor
open Go.RowKit
theorem cells_of {w : World} {b : Nat} {cs : Array Value} {t : TypeId} (h : w.heap[b]? = some (.cells cs t (0, 0))) (k : Nat) : w.cell? ⟨b, k, none⟩ = cs[k]? := cell_of_row w b k cs t (0, 0) h
theorem block_lt {w : World} {b : Nat} {x : Obj} (h : w.heap[b]? = some x) : b < w.heap.size := (Array.getElem?_eq_some_iff.1 h).1
theorem alloc_at {w : World} {g : Nat} {o : Obj} (hg : w.heap.size = g) : (w.alloc o).heap[g]? = some o := by rw [← hg]; exact heap_alloc_new w o
theorem alloc_past {w : World} {g : Nat} {o : Obj} (hg : g < w.heap.size) : (w.alloc o).heap[g]? = w.heap[g]? := heap_alloc_old w o hg
theorem Sl.blk {w : World} {g size n : Nat} {cs : Array Value} {t : TypeId} (h : w.heap[g]? = some (.cells cs t (0, 0))) (hl : cs.size = n * size) (hn : n ≤ maxLen) : Sl w size (some ⟨g, 0, none⟩) n n cs.toList :=
  ⟨by simpa using hl, Nat.le_refl _, hn, fun _ => ⟨g, 0, rfl, block_lt h, fun j u hu => by rw [Nat.zero_add, cells_of h, ← Array.getElem?_toList]; exact hu⟩⟩
theorem frozen_of {w : World} {b : Nat} {cs : Array Value} {t : TypeId} (h : w.heap[b]? = some (.cells cs t (0, 0))) (k : Nat) : w.frozen? ⟨b, k, none⟩ = false := by simp [World.frozen?, h]
theorem set_block {w : World} {b k : Nat} {cs : Array Value} {t : TypeId} (h : w.heap[b]? = some (.cells cs t (0, 0))) (v : Value) : (w.setCell ⟨b, k, none⟩ v).heap[b]? = some (.cells (cs.setIfInBounds k v) t (0, 0)) := by
  simp [World.setCell, Array.getElem?_modify, h]
theorem set_other {w : World} {b k g : Nat} (hne : g ≠ b) (v : Value) : (w.setCell ⟨b, k, none⟩ v).heap[g]? = w.heap[g]? := RowKit.Below.heap_setCell _ _ _ _ hne
theorem own_ne {w : World} {base size n cap g : Nat} {e : TypeId} {A : Option Addr} {xs : List Value} {x : Obj} (h : w.ownsRow base e size (.slice A n cap) n xs) (hx : w.heap[g]? = some x) (hne : ∀ cur, x ≠ .cells cur e (0, 0)) : ∀ a, A = some a → a.block ≠ g := by
  intro a ha hg
  rcases h.2 with ⟨h1, _⟩ | ⟨g', cap', cur, h1, _, h2, _⟩
  · injection h1 with h1; rw [ha] at h1; cases h1
  · injection h1 with h1
    rw [ha] at h1
    injection h1 with h1
    rw [h1] at hg
    simp at hg
    subst hg
    rw [hx] at h2
    injection h2 with h2
    exact hne cur h2
theorem own_at {w w' : World} {base size n cap : Nat} {e : TypeId} {A : Option Addr} {xs : List Value} (h : w.ownsRow base e size (.slice A n cap) n xs) (hk : ∀ a, A = some a → w'.heap[a.block]? = w.heap[a.block]?) : w'.ownsRow base e size (.slice A n cap) n xs := by
  refine ⟨h.1, ?_⟩
  rcases h.2 with h2 | ⟨g, cap', cur, hv, hg, hh, r⟩
  · exact .inl h2
  · refine .inr ⟨g, cap', cur, hv, hg, ?_, r⟩
    injection hv with hv
    have := hk _ hv
    simp at this
    rw [this]
    exact hh
theorem open2 {w : World} {b : Nat} {v0 v1 : Value} {t : TypeId} (h : w.heap[b]? = some (.cells #[v0, v1] t (0, 0))) :
    w.cell? ⟨b, 0, none⟩ = some v0 ∧ w.cell? ⟨b, 1, none⟩ = some v1 ∧ b < w.heap.size := ⟨cells_of h 0, cells_of h 1, block_lt h⟩
theorem open3 {w : World} {b : Nat} {v0 v1 v2 : Value} {t : TypeId} (h : w.heap[b]? = some (.cells #[v0, v1, v2] t (0, 0))) :
    w.cell? ⟨b, 0, none⟩ = some v0 ∧ w.cell? ⟨b, 1, none⟩ = some v1 ∧ w.cell? ⟨b, 2, none⟩ = some v2 ∧ b < w.heap.size := ⟨cells_of h 0, cells_of h 1, cells_of h 2, block_lt h⟩
theorem wp_world' {P : Program} {c : Code} {Q : Exit → Act → World → Prop} {a : Act} {w : World} (Φ : World → Prop) (h : Φ w) (k : ∀ X, Φ X → c.wp P Q a X) : c.wp P Q a w := k w h
end Go.Proofs.YtgipiplklaeplaaDoor
namespace Go.Proofs.YtgipiplklaeplaaDoor
open Go.RowKit
theorem beq_iff (a b : C) : a.beq b = true ↔ a = b := by
  obtain ⟨k, s, n⟩ := a
  obtain ⟨k', s', n'⟩ := b
  simp only [C.beq, Bool.and_eq_true, beq_iff_eq, C.mk.injEq]
  constructor
  · rintro ⟨h1, h2, h3⟩
    refine ⟨h1, ?_, h3⟩
    have := beq_toListBytes s s'
    rw [ByteArray.toList_eq, ByteArray.toList_eq] at h2
    obtain ⟨⟨x⟩⟩ := s
    obtain ⟨⟨y⟩⟩ := s'
    simp at h2
    rw [h2]
  · rintro ⟨rfl, rfl, rfl⟩
    exact ⟨rfl, rfl, rfl⟩
def sameC : List C → List C → Bool
  | [], [] => true
  | a :: asx, b :: bs => a.beq b && sameC asx bs
  | _, _ => false
theorem sameC_iff : ∀ a b : List C, sameC a b = true ↔ a = b
  | [], [] => by simp [sameC]
  | [], b :: bs => by simp [sameC]
  | a :: asx, [] => by simp [sameC]
  | a :: asx, b :: bs => by simp [sameC, beq_iff, sameC_iff asx bs]
theorem sameC_len {a b : List C} (h : a.length ≠ b.length) : sameC a b = false := by
  rw [← Bool.not_eq_true, sameC_iff]
  rintro rfl
  exact h rfl
def sameI : List Int → List Int → Bool
  | [], [] => true
  | a :: asx, b :: bs => a == b && sameI asx bs
  | _, _ => false
theorem sameI_iff : ∀ a b : List Int, sameI a b = true ↔ a = b
  | [], [] => by simp [sameI]
  | [], b :: bs => by simp [sameI]
  | a :: asx, [] => by simp [sameI]
  | a :: asx, b :: bs => by simp [sameI, sameI_iff asx bs]
theorem sameI_len {a b : List Int} (h : a.length ≠ b.length) : sameI a b = false := by
  rw [← Bool.not_eq_true, sameI_iff]
  rintro rfl
  exact h rfl
theorem drop_get {α : Type} {l : List α} {k : Nat} {x : α} (h : l[k]? = some x) : l.drop k = x :: l.drop (k + 1) := by
  obtain ⟨hl, he⟩ := List.getElem?_eq_some_iff.1 h
  rw [List.drop_eq_getElem_cons hl, he]
theorem drop_end {α : Type} {l : List α} {k n : Nat} (h : l.length = n) (hk : ¬ k < n) : l.drop k = [] := List.drop_of_length_le (by omega)
def inI (ns : List Int) (x : Int) : Bool := ns.any fun y => y == x
theorem inI_iff (ns : List Int) (x : Int) : inI ns x = true ↔ x ∈ ns := by simp [inI]
def placeI (ns : List Int) (x : Int) : Int := idxF (fun y => y == x) 0 ns
/-- passing over terms: 'skip cs k': what stands behind the first k terms, if they are there -/
def C.ar (c : C) : Nat := if c.kind = 3 then c.n.toNat else 0
def skip : List C → Nat → Option (List C)
  | cs, 0 => some cs
  | [], _ + 1 => none
  | c :: cs, k + 1 => if c.ok then skip cs (k + c.ar) else none
def endN (t : List C) (at_ : Nat) : Option Nat := (skip (t.drop at_) 1).map fun r => t.length - r.length
def endR (t : List C) (at_ : Nat) : Int := match endN t at_ with | some e => e | none => -1
def endT (t : List C) (at_ : Nat) : Int := match endN t at_ with | some e => e | none => 0
def rightB (t : List C) : Bool := (decide (1 ≤ t.length) && decide (t.length ≤ 200)) && (endN t 0 == some t.length)
def varsA : List Int → List C → List Int
  | acc, [] => acc
  | acc, c :: cs => if c.kind = 1 ∧ inI acc c.n = false then varsA (acc ++ [c.n]) cs else varsA acc cs
def varsF (t : List C) : List Int := varsA [] t
def partsA (t : List C) : Nat → Nat → List (List C)   -- how many are left, where
  | 0, _ => []
  | k + 1, at_ => match endN t at_ with
    | some e => (t.drop at_).take (e - at_) :: partsA t k e
    | none => []
def partsF (t : List C) : List (List C) := match t with
  | [] => []
  | c :: _ => if c.kind = 3 then partsA t c.n.toNat 1 else []
def turnF (f : Int → Int) (t : List C) : List C := t.map fun c => if c.kind = 1 then { c with n := f c.n } else c
def shiftF (t : List C) (by_ : Int) : List C := if rightB (turnF (fun n => wrap64 (n + by_)) t) then turnF (fun n => wrap64 (n + by_)) t else []
def numberF (t : List C) : List C := turnF (placeI (varsF t)) t
end Go.Proofs.YtgipiplklaeplaaDoor
namespace Go.Proofs.YtgipiplklaeplaaDoor
open Go.RowKit
theorem skip_zero (cs : List C) : skip cs 0 = some cs := by cases cs <;> rfl
theorem skip_cons (c : C) (cs : List C) (k : Nat) : skip (c :: cs) (k + 1) = if c.ok then skip cs (k + c.ar) else none := rfl
theorem skip_nil (k : Nat) (h : 0 < k) : skip [] k = none := by cases k <;> first | rfl | omega
theorem skip_add (cs : List C) : ∀ a b : Nat, skip cs (a + b) = (skip cs a).bind fun r => skip r b := by
  induction cs with
  | nil =>
    intro a b
    cases a with
    | zero => simp [skip_zero]
    | succ a => rw [skip_nil _ (by omega), skip_nil (a + 1) (by omega)]; rfl
  | cons c cs ih =>
    intro a b
    cases a with
    | zero => simp [skip_zero]
    | succ a =>
      rw [show a + 1 + b = (a + b) + 1 by omega, skip_cons, skip_cons]
      split
      · rw [show a + b + c.ar = (a + c.ar) + b by omega, ih]
      · rfl
theorem skip_suffix (cs : List C) : ∀ (k : Nat) (r : List C), skip cs k = some r → ∃ d, r = cs.drop d ∧ k ≤ d ∧ d ≤ cs.length := by
  induction cs with
  | nil =>
    intro k r h
    cases k with
    | zero => simp [skip_zero] at h; exact ⟨0, by simp [h], by omega, by simp⟩
    | succ k => rw [skip_nil _ (by omega)] at h; cases h
  | cons c cs ih =>
    intro k r h
    cases k with
    | zero => rw [skip_zero] at h; injection h with h; exact ⟨0, by simp [h], by omega, by simp⟩
    | succ k =>
      rw [skip_cons] at h
      split at h
      · obtain ⟨d, h1, h2, h3⟩ := ih _ _ h
        exact ⟨d + 1, by simpa using h1, by omega, by simpa using h3⟩
      · cases h
theorem endN_some {t : List C} {at_ e : Nat} : endN t at_ = some e ↔ skip (t.drop at_) 1 = some (t.drop e) ∧ at_ < e ∧ e ≤ t.length := by
  unfold endN
  constructor
  · intro h
    cases hs : skip (t.drop at_) 1 with
    | none => rw [hs] at h; cases h
    | some r =>
      rw [hs] at h
      obtain ⟨d, rfl, h1, h2⟩ := skip_suffix _ _ _ hs
      simp at h h2
      rw [List.drop_drop]
      refine ⟨by congr 2; omega, by omega, by omega⟩
  · rintro ⟨h, h1, h2⟩
    rw [h]
    simp; omega
theorem endN_none {t : List C} {at_ : Nat} : endN t at_ = none ↔ skip (t.drop at_) 1 = none := by
  unfold endN
  cases skip (t.drop at_) 1 <;> simp
theorem endN_out {t : List C} {at_ : Nat} (h : t.length ≤ at_) : endN t at_ = none := by
  rw [endN_none, List.drop_of_length_le h]
  exact skip_nil 1 (by omega)
theorem endN_bad {t : List C} {at_ : Nat} {c : C} (hc : t[at_]? = some c) (h : c.ok = false) : endN t at_ = none := by
  rw [endN_none, drop_get hc, skip_cons, h]; rfl
/-- at a good cell: the arguments are passed over -/
theorem endN_good {t : List C} {at_ e : Nat} {c : C} (hc : t[at_]? = some c) (h : c.ok = true) (he : at_ < e) (hl : e ≤ t.length) (hs : skip (t.drop (at_ + 1)) c.ar = some (t.drop e)) : endN t at_ = some e := by
  rw [endN_some, drop_get hc, skip_cons, if_pos h, Nat.zero_add]
  exact ⟨hs, he, hl⟩
theorem endN_args {t : List C} {at_ : Nat} {c : C} (hc : t[at_]? = some c) (h : c.ok = true) (hs : skip (t.drop (at_ + 1)) c.ar = none) : endN t at_ = none := by
  rw [endN_none, drop_get hc, skip_cons, if_pos h, Nat.zero_add]
  exact hs
theorem ok_fun {c : C} (h : c.ok = true) (hk : c.kind = 3) : 0 ≤ c.n ∧ c.n ≤ 6 := by
  unfold C.ok at h
  simp [hk] at h
  omega
theorem ar_fun {c : C} (h : c.ok = true) (hk : c.kind = 3) : (c.ar : Int) = c.n := by
  have := ok_fun h hk
  simp [C.ar, hk]; omega
theorem ar_other {c : C} (hk : c.kind ≠ 3) : c.ar = 0 := by simp [C.ar, hk]
theorem endT_some {t : List C} {at_ e : Nat} (h : endN t at_ = some e) : endT t at_ = e := by simp [endT, h]
theorem endT_none {t : List C} {at_ : Nat} (h : endN t at_ = none) : endT t at_ = 0 := by simp [endT, h]
theorem endR_some {t : List C} {at_ e : Nat} (h : endN t at_ = some e) : endR t at_ = e := by simp [endR, h]
theorem endR_none {t : List C} {at_ : Nat} (h : endN t at_ = none) : endR t at_ = -1 := by simp [endR, h]
theorem right_R (t : List C) (n : Nat) (hl : t.length = n) (h1 : 1 ≤ n) (h2 : n ≤ 200) : (endR t 0 == (n : Int)) = rightB t := by
  subst hl
  unfold rightB endR
  cases h : endN t 0 with
  | none => simp [h1, h2] <;> omega
  | some e => rw [Bool.eq_iff_iff]; simp [h1, h2]; omega
theorem right_T (t : List C) (n : Nat) (hl : t.length = n) (h1 : 1 ≤ n) (h2 : n ≤ 200) : (endT t 0 == (n : Int)) = rightB t := by
  subst hl
  unfold rightB endT
  cases h : endN t 0 with
  | none => simp [h1, h2] <;> omega
  | some e => rw [Bool.eq_iff_iff]; simp [h1, h2]; omega
theorem right_no (t : List C) (n : Nat) (hl : t.length = n) (h : n < 1 ∨ 200 < n) : rightB t = false := by
  subst hl
  unfold rightB
  rcases h with h | h
  · simp; omega
  · simp; omega
end Go.Proofs.YtgipiplklaeplaaDoor
