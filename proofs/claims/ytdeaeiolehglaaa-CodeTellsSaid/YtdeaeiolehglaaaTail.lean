/- A slice that is the end of a row of the call's own: cut at its beginning, grown at its end. No program in sight. -/
import Derived.Test.YtdeaeiolehglaaaAppT
import Derived.Test.YtdeaeiolehglaaaGen
set_option linter.unusedVariables false
set_option linter.unusedSimpArgs false
namespace Go.Proofs.Ytdeaeiolehglaaa
open Go.RowKit

/-- without room, or the end of a row of the call's own -/
structure Tail (w : World) (base : Nat) (e : TypeId) (size : Nat) (A : Option Addr) (n cap : Nat) (xs : List Value) : Prop where
  len : xs.length = n * size
  hcap : n ≤ cap
  hmax : cap ≤ maxLen
  form : cap = 0 ∨ ∃ g off cur, A = some ⟨g, off, none⟩ ∧ base ≤ g ∧ w.heap[g]? = some (.cells cur e (0, 0)) ∧ off + cap * size ≤ cur.size ∧ (cur.toList.drop off).take (n * size) = xs
section
variable {w w' : World} {base : Nat} {e : TypeId} {size n cap : Nat} {A : Option Addr} {xs : List Value}
theorem Tail.nil (w : World) (base : Nat) (e : TypeId) (size : Nat) (A : Option Addr) : Tail w base e size A 0 0 [] := ⟨by simp, Nat.le_refl _, by simp [maxLen], .inl rfl⟩
theorem Tail.own (h : w.ownsRow base e size (.slice A n cap) n xs) : Tail w base e size A n cap xs := by
  rcases h.2 with ⟨h1, rfl⟩ | ⟨g, cap', cur, h1, hb, hg, hn, hm, hs, ht⟩
  · injection h1 with h1 h2 h3
    subst h1 h3
    exact ⟨h.1, Nat.le_refl _, by simp [maxLen], .inl rfl⟩
  · injection h1 with h1 h2 h3
    subst h1 h3
    exact ⟨h.1, hn, hm, .inr ⟨g, 0, cur, rfl, hb, hg, by omega, by simpa using ht⟩⟩
theorem Tail.lower {base' : Nat} (h : Tail w base e size A n cap xs) (hb : base' ≤ base) : Tail w base' e size A n cap xs :=
  ⟨h.len, h.hcap, h.hmax, h.form.imp id fun ⟨g, off, cur, h1, h2, r⟩ => ⟨g, off, cur, h1, by omega, r⟩⟩
theorem Tail.at_ (h : Tail w base e size A n cap xs) (hk : ∀ a, A = some a → w'.heap[a.block]? = w.heap[a.block]?) : Tail w' base e size A n cap xs :=
  ⟨h.len, h.hcap, h.hmax, h.form.imp id fun ⟨g, off, cur, h1, h2, h3, r⟩ => ⟨g, off, cur, h1, h2, by rw [hk _ h1]; exact h3, r⟩⟩
theorem Tail.below (h : Tail w base e size A n cap xs) (hb : Below w.heap.size w w') : Tail w' base e size A n cap xs :=
  ⟨h.len, h.hcap, h.hmax, h.form.imp id fun ⟨g, off, cur, h1, h2, h3, r⟩ => ⟨g, off, cur, h1, h2, by rw [hb.block g (Array.getElem?_eq_some_iff.1 h3).1]; exact h3, r⟩⟩
/-- its block is new, and no other one -/
theorem Tail.lt (h : Tail w base e size A n cap xs) (hc : 0 < cap) : ∀ a, A = some a → base ≤ a.block ∧ a.block < w.heap.size := by
  intro a ha
  rcases h.form with h0 | ⟨g, off, cur, h1, h2, h3, _⟩
  · omega
  · rw [h1] at ha
    injection ha with ha
    subst ha
    exact ⟨h2, (Array.getElem?_eq_some_iff.1 h3).1⟩
theorem Tail.ne {g : Nat} {x : Obj} (h : Tail w base e size A n cap xs) (hc : 0 < cap) (hx : w.heap[g]? = some x) (hne : ∀ cur, x ≠ .cells cur e (0, 0)) : ∀ a, A = some a → a.block ≠ g := by
  intro a ha hg
  rcases h.form with h0 | ⟨g', off, cur, h1, h2, h3, _⟩
  · omega
  · rw [h1] at ha
    injection ha with ha
    subst ha
    simp at hg
    subst hg
    rw [hx] at h3
    injection h3 with h3
    exact hne cur h3
theorem Tail.sl (h : Tail w base e size A n cap xs) (hs : 0 < size) : Sl w size A n cap xs := by
  refine ⟨h.len, h.hcap, h.hmax, fun hn => ?_⟩
  rcases h.form with h0 | ⟨g, off, cur, h1, h2, h3, h4, h5⟩
  · have := h.hcap; omega
  · refine ⟨g, off, h1, (Array.getElem?_eq_some_iff.1 h3).1, fun j u hu => ?_⟩
    rw [cell_of_row w g (off + j) cur e (0, 0) h3]
    rw [← h5, List.getElem?_take] at hu
    split at hu
    · rw [List.getElem?_drop] at hu
      simpa using hu
    · cases hu
/-- 's[1:]' -/
theorem Tail.cut1 (h : Tail w base e size A n cap xs) (hn : 0 < n) : Tail w base e size (if cap = 1 then A else A.map (·.add (1 * size))) (n - 1) (cap - 1) (xs.drop size) := by
  have hl := h.len
  have hsub : (n - 1) * size = n * size - size := by rw [Nat.sub_mul, Nat.one_mul]
  refine ⟨by rw [List.length_drop, hl, hsub], by have := h.hcap; omega, by have := h.hmax; omega, ?_⟩
  rcases h.form with h0 | ⟨g, off, cur, h1, h2, h3, h4, h5⟩
  · have := h.hcap; omega
  · by_cases hc : cap = 1
    · exact .inl (by omega)
    · refine .inr ⟨g, off + size, cur, ?_, h2, h3, ?_, ?_⟩
      · rw [if_neg hc, h1]; simp [Addr.add]
      · have : (cap - 1) * size = cap * size - size := by rw [Nat.sub_mul, Nat.one_mul]
        have h6 : size ≤ cap * size := Nat.le_mul_of_pos_left size (by have := h.hcap; omega)
        omega
      · rw [← h5, List.drop_take, List.drop_drop, hsub]
end
section
variable {P : Program} {ops : Array Oper} {rest : List Oper} {o : Oper} {a : Act} {w : World} {Q : Exit → Act → World → Prop}
theorem run_append_roomt (t ty e : TypeId) (i : TypeInfo) (ht : P.underlying t = some (.slice e)) (hi : P.info? e = some i)
    (g off sLen sCap : Nat) (cur : Array Value) (hg : w.heap[g]? = some (.cells cur e (0, 0)))
    (a : Addr) (m c : Nat) (news : List Value) (hl : news.length = m * i.size) (hnews : ∀ j u, news[j]? = some u → w.cell? (a.add j) = some u) (h1 : ∀ u ∈ news, u.oneCell' = true)
    (hroom : sLen + m ≤ sCap) (hfit : off + sLen * i.size + news.length ≤ cur.size) :
    (Builtin.append_ #[t, t] ty #[.slice (some ⟨g, off, none⟩) sLen sCap, .slice (some a) m c]).run P w =
      .ok (.slice (some ⟨g, off, none⟩) (sLen + m) sCap) (w.setRow g (cur.toList.take (off + sLen * i.size) ++ news ++ cur.toList.drop (off + sLen * i.size + news.length)).toArray) := by
  have hf := run_firstCells_some (P := P) w i.size m a m c news hl hnews
  have hst := run_storeCells_at P g (off + sLen * i.size) e news 0 cur w hg (by simpa using hfit) h1
  simp only [Nat.add_zero] at hst
  simp [Builtin.append_, run_underlying ht, sizeOf, typeInfo, hi, Builtin.lenOf, hroom, hf, Addr.add_lit, hst]
/-- what an append leaves -/
def AppT (w : World) (base : Nat) (e : TypeId) (size n : Nat) (xs : List Value) (As : Option Addr) (v : Value) (w' : World) : Prop :=
  ∃ A' cap', v = .slice A' n cap' ∧ 0 < cap' ∧ Tail w' base e size A' n cap' xs ∧ Below base w w' ∧ Apart w w' As A'
theorem run_append_tail (s x : Operand) (t : TypeId) (ho : o.op = .call { callee := .builtin .append, args := #[s, x], argTypes := #[t, t] })
    (base : Nat) (e : TypeId) {z : Value} {size bytes : Nat} (ht : P.underlying t = some (.slice e)) (hinfo : (P.info? e).map (fun i => (i.zero, i.size, i.bytes)) = some (some z, size, bytes))
    (hzs : z.cells.size = size) (hsz : 0 < size) {As : Option Addr} {n cs : Nat} {xs : List Value} (hs : a.eval s = .slice As n cs) (hown : Tail w base e size As n cs xs)
    {A : Option Addr} {m c : Nat} {news : List Value} (hx : a.eval x = .slice A m c) (hr : Sl w size A m c news) (h1 : ∀ u ∈ news, u.oneCell' = true) (hm : 0 < m)
    (h63 : n + m ≤ 1000000000000) (hbyt : bytes ≤ 64) (hbase : base ≤ w.heap.size) :
    ∃ v w', (execOp a.eval o).run P w = .ok (.value v) w' ∧ AppT w base e size (n + m) (xs ++ news) As v w' := by
  obtain ⟨i, hi, hz, hsize, hby⟩ := info_parts hinfo
  obtain ⟨b', off', rfl, hlt, hc⟩ := hr.cells hm
  have hc' : ∀ j u, news[j]? = some u → w.cell? ((⟨b', off', none⟩ : Addr).add j) = some u := fun j u hu => by rw [Addr.add_lit]; exact hc j u hu
  have hmx : n + m ≤ maxLen := by simp only [maxLen]; omega
  have hbb : (n + m) * bytes ≤ 140737488355328 := by have : (n + m) * bytes ≤ 1000000000000 * 64 := Nat.mul_le_mul h63 hbyt; omega
  -- a new row
  have fresh : ∀ (v' : Value) (w' : World), (Builtin.append_ #[t, t] o.type #[.slice As n cs, .slice (some ⟨b', off', none⟩) m c]).run P w = .ok v' w' → w'.ownsRow w.heap.size e size v' (n + m) (xs ++ news) → w.grownBy w' none →
      ∃ v w', (execOp a.eval o).run P w = .ok (.value v) w' ∧ AppT w base e size (n + m) (xs ++ news) As v w' := by
    intro v' w' hrun g1 g2
    refine ⟨v', w', by simp only [execOp, ho, resolve, invoke, builtin, Sem.run_bind, Sem.run_pure, Result.andThen_ok, List.map_toArray, List.map_cons, List.map_nil, hs, hx, hrun], ?_⟩
    obtain ⟨A', cap', rfl, hsl⟩ := Sl.of_own g1 hsz
    have := hsl.hcap
    exact ⟨A', cap', rfl, by omega, (Tail.own g1).lower hbase, (Below.refl base w).grown g2 hbase (fun q hq => by cases hq), ⟨g2.size, fun g hg _ => g2.block g hg (by simp), fun a' ha' => ⟨(Own0.lt g1 a' ha').2, .inr (Own0.lt g1 a' ha').1⟩⟩⟩
  rcases hown.form with h0 | ⟨g, off, cur, rfl, hbg, hg, hsc, htk⟩
  · have hn : n = 0 := by have := hown.hcap; omega
    subst hn
    subst h0
    have hx0 : xs = [] := List.eq_nil_of_length_eq_zero (by simpa using hown.len)
    subst hx0
    cases As with
    | none =>
      obtain ⟨v', w', hrun, h2, h3, h4⟩ := run_append_sl (P := P) w.heap.size t o.type e i z size bytes ht hi hz hsize hby hzs hsz _ 0 [] (World.ownsRow_nil w w.heap.size e size) (some ⟨b', off', none⟩) m c news hr h1 hmx hbb (Nat.le_refl _)
      exact fresh v' w' hrun h2 (by simpa [Value.ownBlock] using h3)
    | some b =>
      obtain ⟨v', w', hrun, h2, h3⟩ := run_append_arg_grows (P := P) w t o.type e i z size bytes ht hi hz hsize hby hzs hsz b 0 0 [] (by simp) (by simp) ⟨b', off', none⟩ m c news hr.len hc' (by omega) hmx hbb
      exact fresh v' w' hrun h2 h3
  · by_cases hroom : n + m ≤ cs
    · have hfit : off + n * i.size + news.length ≤ cur.size := by
        rw [hsize, hr.len, Nat.add_assoc, ← Nat.add_mul]
        exact Nat.le_trans (Nat.add_le_add_left (Nat.mul_le_mul_right _ hroom) _) hsc
      have hrun := run_append_roomt (P := P) (w := w) t o.type e i ht hi g off n cs cur hg ⟨b', off', none⟩ m c news (by rw [hsize]; exact hr.len) hc' h1 hroom hfit
      rw [hsize] at hrun hfit
      have hrun2 : (execOp a.eval o).run P w = .ok (.value (.slice (some ⟨g, off, none⟩) (n + m) cs)) (w.setRow g (cur.toList.take (off + n * size) ++ news ++ cur.toList.drop (off + n * size + news.length)).toArray) := by
        simp only [execOp, ho, resolve, invoke, builtin, Sem.run_bind, Sem.run_pure, Result.andThen_ok, List.map_toArray, List.map_cons, List.map_nil, hs, hx, hrun]
      refine ⟨_, _, hrun2, _, cs, rfl, by omega, ⟨?_, hroom, hown.hmax, .inr ⟨g, off, _, rfl, hbg, setRow_heap w g cur _ e _ hg, ?_, ?_⟩⟩, (Below.refl base w).grown (row := some g) ⟨rfl, rfl, rfl, by simp, fun k _ hk => setRow_other w g k _ (fun e => hk (by rw [e]))⟩ hbase (fun q hq => by cases hq; exact hbg), ⟨by simp, fun k hk hne => setRow_other w g k _ (fun e => hne _ rfl (by simp [e])), fun a' ha' => ?_⟩⟩
      · rw [List.length_append, hown.len, hr.len, Nat.add_mul]
      · simp only [List.size_toArray, List.length_append, List.length_take, List.length_drop, Array.length_toList]
        omega
      · have hl1 : off ≤ cur.size := by omega
        have e1 : cur.toList.take (off + n * size) = cur.toList.take off ++ xs := by rw [List.take_add, htk]
        rw [List.toList_toArray, List.append_assoc, e1, List.append_assoc, List.drop_append_of_le_length (by rw [List.length_take]; simp; omega), List.drop_of_length_le (by rw [List.length_take]; omega), List.nil_append, ← List.append_assoc]
        have e2 : (n + m) * size = (xs ++ news).length := by rw [List.length_append, hown.len, hr.len, Nat.add_mul]
        rw [e2]
        exact List.take_left
      · injection ha' with ha'
        subst ha'
        exact ⟨by simpa using (Array.getElem?_eq_some_iff.1 hg).1, .inl ⟨_, rfl, rfl⟩⟩
    · have holds : ∀ j u, xs[j]? = some u → w.cell? ((⟨g, off, none⟩ : Addr).add j) = some u := fun j u hu => by
        obtain ⟨b2, off2, he, _, hcc⟩ := (hown.sl hsz).cells (by
          rcases Nat.eq_zero_or_pos n with hn | hn
          · subst hn
            have : xs = [] := List.eq_nil_of_length_eq_zero (by simpa using hown.len)
            subst this
            simp at hu
          · exact hn)
        injection he with he
        injection he with h1 h2
        subst h1 h2
        rw [Addr.add_lit]
        exact hcc j u hu
      obtain ⟨v', w', hrun, h2, h3⟩ := run_append_arg_grows (P := P) w t o.type e i z size bytes ht hi hz hsize hby hzs hsz ⟨g, off, none⟩ n cs xs hown.len holds ⟨b', off', none⟩ m c news hr.len hc' (by omega) hmx hbb
      exact fresh v' w' hrun h2 h3
/-- 'append(s, x...)' at the operation -/
theorem wpList_append_tail (hw : Region.wanted o (yielded ops a.tmps) = true) (s x : Operand) (t : TypeId) (ho : o.op = .call { callee := .builtin .append, args := #[s, x], argTypes := #[t, t] })
    (base : Nat) (e : TypeId) {z : Value} {size bytes : Nat} (ht : P.underlying t = some (.slice e)) (hinfo : (P.info? e).map (fun i => (i.zero, i.size, i.bytes)) = some (some z, size, bytes))
    (hzs : z.cells.size = size) (hsz : 0 < size) {As : Option Addr} {n cs : Nat} {xs : List Value} (hs : a.eval s = .slice As n cs) (hown : Tail w base e size As n cs xs)
    {A : Option Addr} {m c : Nat} {news : List Value} (hx : a.eval x = .slice A m c) (hr : Sl w size A m c news) (h1 : ∀ u ∈ news, u.oneCell' = true) (hm : 0 < m)
    (h63 : n + m ≤ 1000000000000) (hbyt : bytes ≤ 64) (hbase : base ≤ w.heap.size)
    (k : ∀ A' cap' w', 0 < cap' → Tail w' base e size A' (n + m) cap' (xs ++ news) → Below base w w' → Apart w w' As A' → wpList P ops Q rest (a.put o.dst (.slice A' (n + m) cap')) w') :
    wpList P ops Q (o :: rest) a w :=
  wpList_run hw (run_append_tail s x t ho base e ht hinfo hzs hsz hs hown hx hr h1 hm h63 hbyt hbase) fun v w' ⟨A', cap', hv, h0, h2, h3, h4⟩ => by
    subst hv
    exact k A' cap' w' h0 h2 h3 h4
theorem step_append_tail {K : Act → World → Prop} {E : Prop} (hw : Region.wanted o (yielded ops a.tmps) = true) (s x : Operand) (t : TypeId) (ho : o.op = .call { callee := .builtin .append, args := #[s, x], argTypes := #[t, t] })
    (base : Nat) (e : TypeId) {z : Value} {size bytes : Nat} (ht : P.underlying t = some (.slice e)) (hinfo : (P.info? e).map (fun i => (i.zero, i.size, i.bytes)) = some (some z, size, bytes))
    (hzs : z.cells.size = size) (hsz : 0 < size) {As : Option Addr} {n cs : Nat} {xs : List Value} (hs : a.eval s = .slice As n cs) (hown : Tail w base e size As n cs xs)
    {A : Option Addr} {m c : Nat} {news : List Value} (hx : a.eval x = .slice A m c) (hr : Sl w size A m c news) (h1 : ∀ u ∈ news, u.oneCell' = true) (hm : 0 < m)
    (h63 : n + m ≤ 1000000000000) (hbyt : bytes ≤ 64) (hbase : base ≤ w.heap.size)
    (k : ∀ A' cap' w', 0 < cap' → Tail w' base e size A' (n + m) cap' (xs ++ news) → Below base w w' → Apart w w' As A' → K (a.put o.dst (.slice A' (n + m) cap')) w') :
    if Region.wanted o (yielded ops a.tmps) = true then o.wp P a w K Q else E :=
  step_of_runA hw (run_append_tail s x t ho base e ht hinfo hzs hsz hs hown hx hr h1 hm h63 hbyt hbase) fun v w' ⟨A', cap', hv, h0, h2, h3, h4⟩ => by
    subst hv
    exact k A' cap' w' h0 h2 h3 h4
end
/-- .. of elements -/
structure TailG {α : Type} (R : World → α → List Value → Prop) (k : Nat) (w : World) (base : Nat) (e : TypeId) (A : Option Addr) (n cap : Nat) (xs : List α) : Prop where
  len : xs.length = n
  rows : ∃ vs : List (List Value), vs.length = xs.length ∧ (∀ v ∈ vs, v.length = k) ∧ Tail w base e k A n cap vs.flatten ∧ ∀ (i : Nat) (x : α) (v : List Value), xs[i]? = some x → vs[i]? = some v → R w x v
section
variable {α : Type} {R : World → α → List Value → Prop} {k : Nat} {w w' : World} {base : Nat} {e : TypeId} {A : Option Addr} {n cap : Nat} {xs : List α}
theorem TailG.nil (w : World) (base : Nat) (e : TypeId) (A : Option Addr) : TailG R k w base e A 0 0 [] := ⟨rfl, [], rfl, by simp, Tail.nil w base e k A, by simp⟩
theorem TailG.is (h : TailG R k w base e A n cap xs) (hk : 0 < k) : IsG R k w A n cap xs := by
  obtain ⟨vs, h1, h2, h3, h4⟩ := h.rows
  exact ⟨h.len, vs, h1, h2, h3.sl hk, h4⟩
theorem TailG.below (hR : Keeps R) (h : TailG R k w base e A n cap xs) (hb : Below w.heap.size w w') : TailG R k w' base e A n cap xs := by
  obtain ⟨vs, h1, h2, h3, h4⟩ := h.rows
  exact ⟨h.len, vs, h1, h2, h3.below hb, fun i x v hx hv => hR _ _ _ _ (h4 i x v hx hv) hb⟩
theorem TailG.at_ (hR : ∀ w w' x v, R w x v → R w' x v) (h : TailG R k w base e A n cap xs) (hk : ∀ a, A = some a → w'.heap[a.block]? = w.heap[a.block]?) : TailG R k w' base e A n cap xs := by
  obtain ⟨vs, h1, h2, h3, h4⟩ := h.rows
  exact ⟨h.len, vs, h1, h2, h3.at_ hk, fun i x v hx hv => hR _ _ _ _ (h4 i x v hx hv)⟩
theorem TailG.cut1 {x : α} (h : TailG R k w base e A n cap (x :: xs)) : TailG R k w base e (if cap = 1 then A else A.map (·.add (1 * k))) (n - 1) (cap - 1) xs := by
  obtain ⟨vs, h1, h2, h3, h4⟩ := h.rows
  have hl := h.len
  match vs, h1 with
  | v :: vs, h1 =>
    have hv := h2 v (by simp)
    refine ⟨by simp at hl; omega, vs, by simpa using h1, fun u hu => h2 u (by simp [hu]), ?_, fun i y u hy hu => h4 (i + 1) y u (by simpa using hy) (by simpa using hu)⟩
    have := h3.cut1 (by simp at hl; omega)
    rwa [List.flatten_cons, List.drop_append, hv, List.drop_of_length_le (by omega), List.nil_append, Nat.sub_self, List.drop_zero] at this
/-- one more: what 'append' leaves -/
theorem TailG.snoc {w2 : World} {A' : Option Addr} {cap' : Nat} {x : α} {u : List Value} {vs : List (List Value)}
    (ht : Tail w2 base e k A' (n + 1) cap' (vs.flatten ++ u)) (hl : xs.length = n) (h1 : vs.length = xs.length) (h2 : ∀ v ∈ vs, v.length = k) (hu : u.length = k)
    (h4 : ∀ (i : Nat) (x : α) (v : List Value), xs[i]? = some x → vs[i]? = some v → R w2 x v) (hx : R w2 x u) : TailG R k w2 base e A' (n + 1) cap' (xs ++ [x]) := by
  refine ⟨by simp [hl], vs ++ [u], by simp [h1], ?_, by simpa using ht, ?_⟩
  · intro v hv
    rcases List.mem_append.1 hv with hv | hv
    · exact h2 v hv
    · simp at hv; subst hv; exact hu
  · intro i y v hy hv
    rw [List.getElem?_append] at hy hv
    split at hy
    · rename_i hi
      rw [if_pos (by omega)] at hv
      exact h4 i y v hy hv
    · rename_i hi
      rw [if_neg (by omega)] at hv
      have e : i - xs.length = 0 := by
        have := (List.getElem?_eq_some_iff.1 hy).1
        simp at this
        omega
      have e' : i - vs.length = 0 := by omega
      rw [e] at hy
      rw [e'] at hv
      simp at hy hv
      subst hy hv
      exact hx
end
end Go.Proofs.Ytdeaeiolehglaaa
