/- Texts of this proof that belong together: words of memory, plain laws, walks. -/
import Derived.Test.YtgipiplklaeplaaDoorB02
import Derived.Test.YtgipiplklaeplaaDoorB04
import Derived.Test.YtgipiplklaeplaaDoorB11
import Derived.Test.YtgipiplklaeplaaDoorB29
set_option linter.unusedVariables false
set_option linter.unusedSimpArgs false
namespace Go.Proofs.YtgipiplklaeplaaDoor
open Go.RowKit
structure Tail (w : World) (base : Nat) (e : TypeId) (size : Nat) (A : Option Addr) (n cap : Nat) (xs : List Value) : Prop where
 len : xs.length = n * size
 hcap : n ≤ cap
 hmax : cap ≤ maxLen
 form : cap = 0 ∨ ∃ g off cur, A = some ⟨g, off, none⟩ ∧ base ≤ g ∧ w.heap[g]? = some (.cells cur e (0, 0)) ∧ off + cap * size ≤ cur.size ∧ (cur.toList.drop off).take (n * size) = xs
section
variable {w w' : World} {base : Nat} {e : TypeId} {size n cap : Nat} {A : Option Addr} {xs : List Value}
theorem Tail.nil (w : World) (base : Nat) (e : TypeId) (size : Nat) (A : Option Addr) : Tail w base e size A 0 0 [] := ⟨by simp, Nat.le_refl _, by simp [maxLen], .inl rfl⟩
theorem Tail.own (h : w.ownsRow base e size (.slice A n cap) n xs) : Tail w base e size A n cap xs := by
 rcases h.2 with ⟨h1, rfl⟩ | ⟨g, cap', cur, h1, hb, hg, hn, hm, hs, ht⟩
 ·injection h1 with h1 h2 h3
  subst h1 h3
  exact ⟨h.1, Nat.le_refl _, by simp [maxLen], .inl rfl⟩
 ·injection h1 with h1 h2 h3
  subst h1 h3
  exact ⟨h.1, hn, hm, .inr ⟨g, 0, cur, rfl, hb, hg, by omega, by simpa using ht⟩⟩
theorem Tail.lower {base' : Nat} (h : Tail w base e size A n cap xs) (hb : base' ≤ base) : Tail w base' e size A n cap xs :=
 ⟨h.len, h.hcap, h.hmax, h.form.imp id fun ⟨g, off, cur, h1, h2, r⟩ => ⟨g, off, cur, h1, by omega, r⟩⟩
theorem Tail.at_ (h : Tail w base e size A n cap xs) (hk : ∀ a, A = some a → w'.heap[a.block]? = w.heap[a.block]?) : Tail w' base e size A n cap xs :=
 ⟨h.len, h.hcap, h.hmax, h.form.imp id fun ⟨g, off, cur, h1, h2, h3, r⟩ => ⟨g, off, cur, h1, h2, by rw [hk _ h1]; exact h3, r⟩⟩
theorem Tail.below (h : Tail w base e size A n cap xs) (hb : Below w.heap.size w w') : Tail w' base e size A n cap xs :=
 ⟨h.len, h.hcap, h.hmax, h.form.imp id fun ⟨g, off, cur, h1, h2, h3, r⟩ => ⟨g, off, cur, h1, h2, by rw [hb.block g (Array.getElem?_eq_some_iff.1 h3).1]; exact h3, r⟩⟩
theorem Tail.lt (h : Tail w base e size A n cap xs) (hc : 0 < cap) : ∀ a, A = some a → base ≤ a.block ∧ a.block < w.heap.size := by
 intro a ha
 rcases h.form with h0 | ⟨g, off, cur, h1, h2, h3, _⟩
 ·omega
 ·rw [h1] at ha
  injection ha with ha
  subst ha
  exact ⟨h2, (Array.getElem?_eq_some_iff.1 h3).1⟩
theorem Tail.sl (h : Tail w base e size A n cap xs) (hs : 0 < size) : Sl w size A n cap xs := by
 refine ⟨h.len, h.hcap, h.hmax, fun hn => ?_⟩
 rcases h.form with h0 | ⟨g, off, cur, h1, h2, h3, h4, h5⟩
 ·have := h.hcap; omega
 ·refine ⟨g, off, h1, (Array.getElem?_eq_some_iff.1 h3).1, fun j u hu => ?_⟩
  rw [cell_of_row w g (off + j) cur e (0, 0) h3]
  rw [← h5, List.getElem?_take] at hu
  split at hu
  ·rw [List.getElem?_drop] at hu
   simpa using hu
  ·cases hu
theorem Tail.cut1 (h : Tail w base e size A n cap xs) (hn : 0 < n) : Tail w base e size (if cap = 1 then A else A.map (·.add (1 * size))) (n - 1) (cap - 1) (xs.drop size) := by
 have hl := h.len
 have hsub : (n - 1) * size = n * size - size := by rw [Nat.sub_mul, Nat.one_mul]
 refine ⟨by rw [List.length_drop, hl, hsub], by have := h.hcap; omega, by have := h.hmax; omega, ?_⟩
 rcases h.form with h0 | ⟨g, off, cur, h1, h2, h3, h4, h5⟩
 ·have := h.hcap; omega
 ·by_cases hc : cap = 1
  ·exact .inl (by omega)
  ·refine .inr ⟨g, off + size, cur, ?_, h2, h3, ?_, ?_⟩
   ·rw [if_neg hc, h1]; simp [Addr.add]
   ·have : (cap - 1) * size = cap * size - size := by rw [Nat.sub_mul, Nat.one_mul]
    have h6 : size ≤ cap * size := Nat.le_mul_of_pos_left size (by have := h.hcap; omega)
    omega
   ·rw [← h5, List.drop_take, List.drop_drop, hsub]
end
section
variable {P : Program} {ops : Array Oper} {rest : List Oper} {o : Oper} {a : Act} {w : World} {Q : Exit → Act → World → Prop}
theorem run_append_roomt (t ty e : TypeId) (i : TypeInfo) (ht : P.underlying t = some (.slice e)) (hi : P.info? e = some i)
  (g off sLen sCap : Nat) (cur : Array Value) (hg : w.heap[g]? = some (.cells cur e (0, 0)))
  (a : Addr) (m c : Nat) (news : List Value) (hl : news.length = m * i.size) (hnews : ∀ j u, news[j]? = some u → w.cell? (a.add j) = some u) (h1 : ∀ u ∈ news, u.oneCell' = true)
  (hroom : sLen + m ≤ sCap) (hfit : off + sLen * i.size + news.length ≤ cur.size) :
  (Builtin.append_ #[t, t] ty #[.slice (some ⟨g, off, none⟩) sLen sCap, .slice (some a) m c]).run P w =
   .ok (.slice (some ⟨g, off, none⟩) (sLen + m) sCap) (w.setRow g (cur.toList.take (off + sLen * i.size) ++ news ++ cur.toList.drop (off + sLen * i.size + news.length)).toArray) := by
 have hf := run_firstCells_some (P := P) w i.size m a m c news hl hnews
 have hst := run_storeCells_at P g (off + sLen * i.size) e news 0 cur w hg (by simpa using hfit) h1
 simp only [Nat.add_zero] at hst
 simp [Builtin.append_, run_underlying ht, sizeOf, typeInfo, hi, Builtin.lenOf, hroom, hf, Addr.add_lit, hst]
def AppT (w : World) (base : Nat) (e : TypeId) (size n : Nat) (xs : List Value) (As : Option Addr) (v : Value) (w' : World) : Prop :=
 ∃ A' cap', v = .slice A' n cap' ∧ 0 < cap' ∧ Tail w' base e size A' n cap' xs ∧ Below base w w' ∧ Apart w w' As A'
theorem run_append_tail (s x : Operand) (t : TypeId) (ho : o.op = .call { callee := .builtin .append, args := #[s, x], argTypes := #[t, t] })
  (base : Nat) (e : TypeId) {z : Value} {size bytes : Nat} (ht : P.underlying t = some (.slice e)) (hinfo : (P.info? e).map (fun i => (i.zero, i.size, i.bytes)) = some (some z, size, bytes))
  (hzs : z.cells.size = size) (hsz : 0 < size) {As : Option Addr} {n cs : Nat} {xs : List Value} (hs : a.eval s = .slice As n cs) (hown : Tail w base e size As n cs xs)
  {A : Option Addr} {m c : Nat} {news : List Value} (hx : a.eval x = .slice A m c) (hr : Sl w size A m c news) (h1 : ∀ u ∈ news, u.oneCell' = true) (hm : 0 < m)
  (h63 : n + m ≤ 1000000000000) (hbyt : bytes ≤ 64) (hbase : base ≤ w.heap.size) :
  ∃ v w', (execOp a.eval o).run P w = .ok (.value v) w' ∧ AppT w base e size (n + m) (xs ++ news) As v w' := by
 obtain ⟨i, hi, hz, hsize, hby⟩ := info_parts hinfo
 obtain ⟨b', off', rfl, hlt, hc⟩ := hr.cells hm
 have hc' : ∀ j u, news[j]? = some u → w.cell? ((⟨b', off', none⟩ : Addr).add j) = some u := fun j u hu => by rw [Addr.add_lit]; exact hc j u hu
 have hmx : n + m ≤ maxLen := by simp only [maxLen]; omega
 have hbb : (n + m) * bytes ≤ 140737488355328 := by have : (n + m) * bytes ≤ 1000000000000 * 64 := Nat.mul_le_mul h63 hbyt; omega
 have fresh : ∀ (v' : Value) (w' : World), (Builtin.append_ #[t, t] o.type #[.slice As n cs, .slice (some ⟨b', off', none⟩) m c]).run P w = .ok v' w' → w'.ownsRow w.heap.size e size v' (n + m) (xs ++ news) → w.grownBy w' none →
   ∃ v w', (execOp a.eval o).run P w = .ok (.value v) w' ∧ AppT w base e size (n + m) (xs ++ news) As v w' := by
  intro v' w' hrun g1 g2
  refine ⟨v', w', by simp only [execOp, ho, resolve, invoke, builtin, Sem.run_bind, Sem.run_pure, Result.andThen_ok, List.map_toArray, List.map_cons, List.map_nil, hs, hx, hrun], ?_⟩
  obtain ⟨A', cap', rfl, hsl⟩ := Sl.of_own g1 hsz
  have := hsl.hcap
  exact ⟨A', cap', rfl, by omega, (Tail.own g1).lower hbase, (Below.refl base w).grown g2 hbase (fun q hq => by cases hq), ⟨g2.size, fun g hg _ => g2.block g hg (by simp), fun a' ha' => ⟨(Own0.lt g1 a' ha').2, .inr (Own0.lt g1 a' ha').1⟩⟩⟩
 rcases hown.form with h0 | ⟨g, off, cur, rfl, hbg, hg, hsc, htk⟩
 ·have hn : n = 0 := by have := hown.hcap; omega
  subst hn
  subst h0
  have hx0 : xs = [] := List.eq_nil_of_length_eq_zero (by simpa using hown.len)
  subst hx0
  cases As with
  | none =>
   obtain ⟨v', w', hrun, h2, h3, h4⟩ := run_append_sl (P := P) w.heap.size t o.type e i z size bytes ht hi hz hsize hby hzs hsz _ 0 [] (World.ownsRow_nil w w.heap.size e size) (some ⟨b', off', none⟩) m c news hr h1 hmx hbb (Nat.le_refl _)
   exact fresh v' w' hrun h2 (by simpa [Value.ownBlock] using h3)
  | some b =>
   obtain ⟨v', w', hrun, h2, h3⟩ := run_append_arg_grows (P := P) w t o.type e i z size bytes ht hi hz hsize hby hzs hsz b 0 0 [] (by simp) (by simp) ⟨b', off', none⟩ m c news hr.len hc' (by omega) hmx hbb
   exact fresh v' w' hrun h2 h3
 ·by_cases hroom : n + m ≤ cs
  ·have hfit : off + n * i.size + news.length ≤ cur.size := by
    rw [hsize, hr.len, Nat.add_assoc, ← Nat.add_mul]
    exact Nat.le_trans (Nat.add_le_add_left (Nat.mul_le_mul_right _ hroom) _) hsc
   have hrun := run_append_roomt (P := P) (w := w) t o.type e i ht hi g off n cs cur hg ⟨b', off', none⟩ m c news (by rw [hsize]; exact hr.len) hc' h1 hroom hfit
   rw [hsize] at hrun hfit
   have hrun2 : (execOp a.eval o).run P w = .ok (.value (.slice (some ⟨g, off, none⟩) (n + m) cs)) (w.setRow g (cur.toList.take (off + n * size) ++ news ++ cur.toList.drop (off + n * size + news.length)).toArray) := by
    simp only [execOp, ho, resolve, invoke, builtin, Sem.run_bind, Sem.run_pure, Result.andThen_ok, List.map_toArray, List.map_cons, List.map_nil, hs, hx, hrun]
   refine ⟨_, _, hrun2, _, cs, rfl, by omega, ⟨?_, hroom, hown.hmax, .inr ⟨g, off, _, rfl, hbg, setRow_heap w g cur _ e _ hg, ?_, ?_⟩⟩, (Below.refl base w).grown (row := some g) ⟨rfl, rfl, rfl, by simp, fun k _ hk => setRow_other w g k _ (fun e => hk (by rw [e]))⟩ hbase (fun q hq => by cases hq; exact hbg), ⟨by simp, fun k hk hne => setRow_other w g k _ (fun e => hne _ rfl (by simp [e])), fun a' ha' => ?_⟩⟩
   ·rw [List.length_append, hown.len, hr.len, Nat.add_mul]
   ·simp only [List.size_toArray, List.length_append, List.length_take, List.length_drop, Array.length_toList]
    omega
   ·have hl1 : off ≤ cur.size := by omega
    have e1 : cur.toList.take (off + n * size) = cur.toList.take off ++ xs := by rw [List.take_add, htk]
    rw [List.toList_toArray, List.append_assoc, e1, List.append_assoc, List.drop_append_of_le_length (by rw [List.length_take]; simp; omega), List.drop_of_length_le (by rw [List.length_take]; omega), List.nil_append, ← List.append_assoc]
    have e2 : (n + m) * size = (xs ++ news).length := by rw [List.length_append, hown.len, hr.len, Nat.add_mul]
    rw [e2]
    exact List.take_left
   ·injection ha' with ha'
    subst ha'
    exact ⟨by simpa using (Array.getElem?_eq_some_iff.1 hg).1, .inl ⟨_, rfl, rfl⟩⟩
  ·have holds : ∀ j u, xs[j]? = some u → w.cell? ((⟨g, off, none⟩ : Addr).add j) = some u := fun j u hu => by
    obtain ⟨b2, off2, he, _, hcc⟩ := (hown.sl hsz).cells (by
     rcases Nat.eq_zero_or_pos n with hn | hn
     ·subst hn
      have : xs = [] := List.eq_nil_of_length_eq_zero (by simpa using hown.len)
      subst this
      simp at hu
     ·exact hn)
    injection he with he
    injection he with h1 h2
    subst h1 h2
    rw [Addr.add_lit]
    exact hcc j u hu
   obtain ⟨v', w', hrun, h2, h3⟩ := run_append_arg_grows (P := P) w t o.type e i z size bytes ht hi hz hsize hby hzs hsz ⟨g, off, none⟩ n cs xs hown.len holds ⟨b', off', none⟩ m c news hr.len hc' (by omega) hmx hbb
   exact fresh v' w' hrun h2 h3
theorem wpList_append_tail (hw : Region.wanted o (yielded ops a.tmps) = true) (s x : Operand) (t : TypeId) (ho : o.op = .call { callee := .builtin .append, args := #[s, x], argTypes := #[t, t] })
  (base : Nat) (e : TypeId) {z : Value} {size bytes : Nat} (ht : P.underlying t = some (.slice e)) (hinfo : (P.info? e).map (fun i => (i.zero, i.size, i.bytes)) = some (some z, size, bytes))
  (hzs : z.cells.size = size) (hsz : 0 < size) {As : Option Addr} {n cs : Nat} {xs : List Value} (hs : a.eval s = .slice As n cs) (hown : Tail w base e size As n cs xs)
  {A : Option Addr} {m c : Nat} {news : List Value} (hx : a.eval x = .slice A m c) (hr : Sl w size A m c news) (h1 : ∀ u ∈ news, u.oneCell' = true) (hm : 0 < m)
  (h63 : n + m ≤ 1000000000000) (hbyt : bytes ≤ 64) (hbase : base ≤ w.heap.size)
  (k : ∀ A' cap' w', 0 < cap' → Tail w' base e size A' (n + m) cap' (xs ++ news) → Below base w w' → Apart w w' As A' → wpList P ops Q rest (a.put o.dst (.slice A' (n + m) cap')) w') :
  wpList P ops Q (o :: rest) a w :=
 wpList_run hw (run_append_tail s x t ho base e ht hinfo hzs hsz hs hown hx hr h1 hm h63 hbyt hbase) fun v w' ⟨A', cap', hv, h0, h2, h3, h4⟩ => by
  subst hv
  exact k A' cap' w' h0 h2 h3 h4
end
structure TailG {α : Type} (R : World → α → List Value → Prop) (k : Nat) (w : World) (base : Nat) (e : TypeId) (A : Option Addr) (n cap : Nat) (xs : List α) : Prop where
 len : xs.length = n
 rows : ∃ vs : List (List Value), vs.length = xs.length ∧ (∀ v ∈ vs, v.length = k) ∧ Tail w base e k A n cap vs.flatten ∧ ∀ (i : Nat) (x : α) (v : List Value), xs[i]? = some x → vs[i]? = some v → R w x v
section
variable {α : Type} {R : World → α → List Value → Prop} {k : Nat} {w w' : World} {base : Nat} {e : TypeId} {A : Option Addr} {n cap : Nat} {xs : List α}
theorem TailG.nil (w : World) (base : Nat) (e : TypeId) (A : Option Addr) : TailG R k w base e A 0 0 [] := ⟨rfl, [], rfl, by simp, Tail.nil w base e k A, by simp⟩
theorem TailG.is (h : TailG R k w base e A n cap xs) (hk : 0 < k) : IsG R k w A n cap xs := by
 obtain ⟨vs, h1, h2, h3, h4⟩ := h.rows
 exact ⟨h.len, vs, h1, h2, h3.sl hk, h4⟩
theorem TailG.below (hR : Keeps R) (h : TailG R k w base e A n cap xs) (hb : Below w.heap.size w w') : TailG R k w' base e A n cap xs := by
 obtain ⟨vs, h1, h2, h3, h4⟩ := h.rows
 exact ⟨h.len, vs, h1, h2, h3.below hb, fun i x v hx hv => hR _ _ _ _ (h4 i x v hx hv) hb⟩
theorem TailG.at_ (hR : ∀ w w' x v, R w x v → R w' x v) (h : TailG R k w base e A n cap xs) (hk : ∀ a, A = some a → w'.heap[a.block]? = w.heap[a.block]?) : TailG R k w' base e A n cap xs := by
 obtain ⟨vs, h1, h2, h3, h4⟩ := h.rows
 exact ⟨h.len, vs, h1, h2, h3.at_ hk, fun i x v hx hv => hR _ _ _ _ (h4 i x v hx hv)⟩
theorem TailG.cut1 {x : α} (h : TailG R k w base e A n cap (x :: xs)) : TailG R k w base e (if cap = 1 then A else A.map (·.add (1 * k))) (n - 1) (cap - 1) xs := by
 obtain ⟨vs, h1, h2, h3, h4⟩ := h.rows
 have hl := h.len
 match vs, h1 with
 | v :: vs, h1 =>
  have hv := h2 v (by simp)
  refine ⟨by simp at hl; omega, vs, by simpa using h1, fun u hu => h2 u (by simp [hu]), ?_, fun i y u hy hu => h4 (i + 1) y u (by simpa using hy) (by simpa using hu)⟩
  have := h3.cut1 (by simp at hl; omega)
  rwa [List.flatten_cons, List.drop_append, hv, List.drop_of_length_le (by omega), List.nil_append, Nat.sub_self, List.drop_zero] at this
theorem TailG.snoc {w2 : World} {A' : Option Addr} {cap' : Nat} {x : α} {u : List Value} {vs : List (List Value)}
  (ht : Tail w2 base e k A' (n + 1) cap' (vs.flatten ++ u)) (hl : xs.length = n) (h1 : vs.length = xs.length) (h2 : ∀ v ∈ vs, v.length = k) (hu : u.length = k)
  (h4 : ∀ (i : Nat) (x : α) (v : List Value), xs[i]? = some x → vs[i]? = some v → R w2 x v) (hx : R w2 x u) : TailG R k w2 base e A' (n + 1) cap' (xs ++ [x]) := by
 refine ⟨by simp [hl], vs ++ [u], by simp [h1], ?_, by simpa using ht, ?_⟩
 ·intro v hv
  rcases List.mem_append.1 hv with hv | hv
  ·exact h2 v hv
  ·simp at hv; subst hv; exact hu
 ·intro i y v hy hv
  rw [List.getElem?_append] at hy hv
  split at hy
  ·rename_i hi
   rw [if_pos (by omega)] at hv
   exact h4 i y v hy hv
  ·rename_i hi
   rw [if_neg (by omega)] at hv
   have e : i - xs.length = 0 := by
    have := (List.getElem?_eq_some_iff.1 hy).1
    simp at this
    omega
   have e' : i - vs.length = 0 := by omega
   rw [e] at hy
   rw [e'] at hv
   simp at hy hv
   subst hy hv
   exact hx
end
end Go.Proofs.YtgipiplklaeplaaDoor
namespace Go.Proofs.YtgipiplklaeplaaDoor
open Go.RowKit
theorem infoArgC : (Tryd.prog.info? 166).map (fun i => (i.zero, i.size, i.bytes)) = some (some (.agg #[.slice none 0 0, .int .i64 0]), 2, 32) := by kernel_rfl
theorem Mk.cblk_lt {w : World} {base bm bq : Nat} {s : St} (h : Mk w base bm bq s) {g : Nat} (hg : w.heap.size ≤ g) : cblk w bm ≠ some g := by
 obtain ⟨A, n, cap, hb1, hb2, hm, hcode, hmap⟩ := h.has
 obtain ⟨vs, v1, v2, hown, v4⟩ := hcode.rows
 rw [cblk_of hm]
 intro he
 cases A with
 | none => cases he
 | some a =>
  have := Own0.lt hown a rfl
  simp at he
  omega
theorem Mk.apart {w w' : World} {base bm bq : Nat} {s : St} {As A' : Option Addr} (h : Mk w base bm bq s) (hap : Apart w w' As A') (hf : ∀ a, As = some a → Free w bm bq a.block) : Mk w' base bm bq s ∧ cblk w' bm = cblk w bm := by
 have hlt := h.lt
 have hbm : w'.heap[bm]? = w.heap[bm]? := hap.old bm hlt.2.1 fun a ha he => (hf a ha).m he
 have hbq : w'.heap[bq]? = w.heap[bq]? := hap.old bq hlt.2.2.2 fun a ha he => (hf a ha).q he
 refine ⟨?_, cblk_same hbm⟩
 obtain ⟨A, n, cap, hb1, hb2, hm, hcode, hmap⟩ := h.has
 obtain ⟨vs, v1, v2, hown, v4⟩ := hcode.rows
 refine ⟨⟨A, n, cap, hb1, hb2, hbm.trans hm, ⟨hcode.len, vs, v1, v2, own_at hown fun a ha => hap.old _ (Own0.lt hown a ha).2 fun a0 h0 he => (hf a0 h0).c ?_, fun i x v hx hv => v4 i x v hx hv⟩, hmap.block hbq⟩, h.fit⟩
 rw [cblk_of hm, ha]
 simp [he]
theorem Kept.apart {w0 w w' : World} {base bm bq : Nat} {s : St} {As A' : Option Addr} (hk : Kept w0 w bm bq) (h : Mk w base bm bq s) (hap : Apart w w' As A') (hf : ∀ a, As = some a → Free w bm bq a.block) (hlow : ∀ a, As = some a → w0.heap.size ≤ a.block) : Kept w0 w' bm bq := ⟨fun g hg => by
 obtain ⟨h1, h2⟩ := hk.free g hg
 have hne : ∀ a, As = some a → a.block ≠ g := fun a ha he => by have := hlow a ha; have := hg.lt; omega
 exact ⟨(hap.old g h2.lt hne).trans h1, ⟨Nat.lt_of_lt_of_le h2.lt hap.size, h2.m, h2.q, by rw [(h.apart hap hf).2]; exact h2.c⟩⟩⟩
theorem free_apart {w w' : World} {base bm bq : Nat} {s : St} {As A' : Option Addr} (h : Mk w base bm bq s) (hap : Apart w w' As A') (hf : ∀ a, As = some a → Free w bm bq a.block) : ∀ a, A' = some a → Free w' bm bq a.block := fun a ha => by
 have hlt := h.lt
 obtain ⟨h1, h2⟩ := hap.blk a ha
 rcases h2 with ⟨a0, h0, he⟩ | h2
 ·have := hf a0 h0
  rw [he]
  exact ⟨by rw [← he]; exact h1, this.m, this.q, by rw [(h.apart hap hf).2]; exact this.c⟩
 ·exact ⟨h1, by omega, by omega, by rw [(h.apart hap hf).2]; exact h.cblk_lt h2⟩
def RArgW (W : World) : World → Tm × Int → List Value → Prop := fun _ p v => ∃ A n c, v = [.slice A n c, .int .i64 p.2] ∧ IsC W A n c p.1.flat
theorem keepsArgW (W : World) : Keeps (RArgW W) := fun _ _ _ _ h _ => h
theorem IsC.tm {w : World} {A : Option Addr} {n cap : Nat} {T : Tm} (h : IsC w A n cap T.flat) :
  ∃ b off, A = some ⟨b, off, none⟩ ∧ b < w.heap.size ∧ w.cell? ⟨b, off, none⟩ = some (.int .i64 T.c0.kind) ∧ w.cell? ⟨b, off + 1, none⟩ = some (.string T.c0.name) ∧ w.cell? ⟨b, off + 2, none⟩ = some (.int .i64 T.c0.n) ∧ 0 < n := by
 obtain ⟨b, off, hA, hb, _, h0, h1, h2⟩ := h.at_ (flat_get0 T)
 have := h.len
 rw [flat_size] at this
 have hp := T.size_pos
 exact ⟨b, off, hA, hb, by simpa using h0, by simpa using h1, by simpa using h2, by omega⟩
theorem numbered_snoc (t : Tm) : ∀ (l : List Tm) (j : Nat), numbered j (l ++ [t]) = numbered j l ++ [(t, ((j + l.length : Nat) : Int))]
 | [], j => rfl
 | x :: l, j => by
  rw [List.cons_append, numbered, numbered, numbered_snoc t l (j + 1), List.cons_append]
  congr 3
  simp; omega
theorem numbered_mem {p : Tm × Int} : ∀ {l : List Tm} {j : Nat}, p ∈ numbered j l → p.1 ∈ l ∧ 0 ≤ p.2 ∧ p.2 < j + l.length
 | x :: l, j, h => by
  rw [numbered] at h
  rcases List.mem_cons.1 h with rfl | h
  ·exact ⟨by simp, by simp, by simp; omega⟩
  ·obtain ⟨h1, h2, h3⟩ := numbered_mem h
   exact ⟨by simp [h1], h2, by simp at h3 ⊢; omega⟩
def rsz : List (Tm × Int) → Nat
 | [] => 0
 | p :: r => p.1.size + rsz r
def rwt : List (Tm × Int) → Nat
 | [] => 0
 | p :: r => (1 + 2 * sizes p.1.args) + rwt r
theorem rsz_append : ∀ a b : List (Tm × Int), rsz (a ++ b) = rsz a + rsz b
 | [], b => by simp [rsz]
 | p :: a, b => by rw [List.cons_append, rsz, rsz, rsz_append a b, Nat.add_assoc]
theorem rwt_append : ∀ a b : List (Tm × Int), rwt (a ++ b) = rwt a + rwt b
 | [], b => by simp [rwt]
 | p :: a, b => by rw [List.cons_append, rwt, rwt, rwt_append a b]; omega
theorem rwt_len : ∀ a : List (Tm × Int), a.length ≤ rwt a
 | [] => by simp [rwt]
 | p :: a => by have := rwt_len a; simp only [rwt, List.length_cons]; omega
theorem rsz_numbered : ∀ (l : List Tm) (j : Nat), rsz (numbered j l) = sizes l
 | [], _ => rfl
 | x :: l, j => by rw [numbered, rsz, rsz_numbered l (j + 1), sizes_cons]
theorem rwt_numbered : ∀ (l : List Tm) (j : Nat), rwt (numbered j l) ≤ 2 * sizes l
 | [], _ => by simp [numbered, rwt]
 | x :: l, j => by
  have := rwt_numbered l (j + 1)
  have e : rwt (numbered j (x :: l)) = (1 + 2 * sizes x.args) + rwt (numbered (j + 1) l) := rfl
  rw [e, sizes_cons, size_args]
  omega
def RowOk (row : List (Tm × Int)) : Prop := ∀ p ∈ row, p.1.ok = true ∧ p.1.size ≤ 200 ∧ 0 ≤ p.2 ∧ p.2 ≤ 100000
theorem RowOk.append {a b : List (Tm × Int)} (ha : RowOk a) (hb : RowOk b) : RowOk (a ++ b) := fun p hp => (List.mem_append.1 hp).elim (ha p) (hb p)
theorem c0_kind3 (T : Tm) : T.c0.kind = 3 ↔ ∃ s us, T = .f s us := by
 cases T with
 | v n => simp [Tm.c0]
 | i n => simp [Tm.c0]
 | f s us => simp [Tm.c0]
theorem unisF_fun (s : St) (t : Tm) (ts : List Tm) (h : t.c0.kind = 3) :
  unisF s (t :: ts) = ((unisF (s.emit { op := 5, x := s.next }).bump ts).1, (t, (s.next : Int)) :: (unisF (s.emit { op := 5, x := s.next }).bump ts).2) := by
 obtain ⟨nm, us, rfl⟩ := (c0_kind3 t).1 h
 rfl
theorem unisF_one (s : St) (t : Tm) (ts : List Tm) (h : t.c0.kind ≠ 3) : unisF s (t :: ts) = unisF (oneF 5 6 7 s t) ts := by
 cases t with
 | v n => rfl
 | i n => rfl
 | f s us => exact absurd rfl h
theorem unisF_room : ∀ (ts : List Tm) (s : St) (k : Nat), s.room (2 * sizes ts + k) → (unisF s ts).1.room (rwt (unisF s ts).2 + k)
 | [], s, k, h => h.le (by simp [unisF, rwt])
 | t :: ts, s, k, h => by
  rw [sizes_cons, size_args] at h
  by_cases hk : t.c0.kind = 3
  ·rw [unisF_fun s t ts hk]
   have := unisF_room ts (s.emit { op := 5, x := s.next }).bump (k + 1 + 2 * sizes t.args) ((room_fresh _ (h.le (j := 2 * sizes ts + (k + 1 + 2 * sizes t.args) + 1) (by omega))))
   exact this.le (by simp only [rwt]; omega)
  ·rw [unisF_one s t ts hk]
   exact unisF_room ts _ k (room_one _ _ _ _ (h.le (by omega)))
theorem unisF_rsz : ∀ (ts : List Tm) (s : St), rsz (unisF s ts).2 ≤ sizes ts
 | [], s => by simp [unisF, rsz]
 | t :: ts, s => by
  rw [sizes_cons]
  by_cases hk : t.c0.kind = 3
  ·rw [unisF_fun s t ts hk]
   have := unisF_rsz ts (s.emit { op := 5, x := s.next }).bump
   simp only [rsz]; omega
  ·rw [unisF_one s t ts hk]
   have := unisF_rsz ts (oneF 5 6 7 s t)
   omega
theorem unisF_ok : ∀ (ts : List Tm) (s : St), oks ts = true → sizes ts ≤ 199 → s.room (2 * sizes ts) → RowOk (unisF s ts).2
 | [], s, _, _, _ => by simp [unisF, RowOk]
 | t :: ts, s, ho, hs, hr => by
  rw [oks_cons, Bool.and_eq_true] at ho
  rw [sizes_cons] at hs hr
  have hp := t.size_pos
  by_cases hk : t.c0.kind = 3
  ·rw [unisF_fun s t ts hk]
   have h1 := hr.next
   have := unisF_ok ts (s.emit { op := 5, x := s.next }).bump ho.2 (by omega) (room_fresh _ (hr.le (by omega)))
   intro p hp'
   rcases List.mem_cons.1 hp' with rfl | hp'
   ·exact ⟨ho.1, by dsimp only; omega, by simp, by simp; omega⟩
   ·exact this p hp'
  ·rw [unisF_one s t ts hk]
   exact unisF_ok ts _ ho.2 (by omega) (room_one _ _ _ _ (hr.le (by omega)))
theorem headF_fun (s : St) (t : Tm) (r : Int) (h : t.c0.kind = 3) : headF s (t, r) = unisF (s.emit { op := 4, a := r, name := t.c0.name, n := t.c0.n }) t.args := by
 obtain ⟨nm, us, rfl⟩ := (c0_kind3 t).1 h
 rfl
theorem headF_room {s : St} {p : Tm × Int} {k : Nat} (h : s.room (1 + 2 * sizes p.1.args + k)) : (headF s p).1.room (rwt (headF s p).2 + k) := by
 obtain ⟨t, r⟩ := p
 cases t with
 | v n => exact (room_reg n _ (h.le (j := k + 1) (by omega))).le (by simp [headF, rwt])
 | i n => exact (room_emit _ (h.le (j := k + 1) (by omega))).le (by simp [headF, rwt])
 | f nm us =>
  rw [headF_fun s _ r rfl]
  exact unisF_room _ _ k (room_emit _ (h.le (by simp only [Tm.args]; omega)))
theorem headF_rsz (s : St) (p : Tm × Int) : rsz (headF s p).2 + 1 ≤ p.1.size := by
 obtain ⟨t, r⟩ := p
 cases t with
 | v n => simp [headF, rsz, Tm.size]
 | i n => simp [headF, rsz, Tm.size]
 | f nm us =>
  rw [headF_fun s _ r rfl, size_args]
  have := unisF_rsz (Tm.f nm us).args (s.emit { op := 4, a := r, name := (Tm.f nm us).c0.name, n := (Tm.f nm us).c0.n })
  simp only
  omega
theorem headF_ok {s : St} {p : Tm × Int} (ho : p.1.ok = true) (hs : p.1.size ≤ 200) (h : s.room (1 + 2 * sizes p.1.args)) : RowOk (headF s p).2 := by
 obtain ⟨t, r⟩ := p
 cases t with
 | v n => simp [headF, RowOk]
 | i n => simp [headF, RowOk]
 | f nm us =>
  rw [headF_fun s _ r rfl]
  rw [size_args] at hs
  exact unisF_ok _ _ (args_ok ho) (by simp only at hs; omega) (room_emit _ (h.le (by simp only; omega)))
theorem headsF_nil (k : Nat) (s : St) : headsF k s [] = s := by cases k <;> rfl
theorem headsF_cons (k : Nat) (s : St) (p : Tm × Int) (row : List (Tm × Int)) : headsF (k + 1) s (p :: row) = headsF k (headF s p).1 (row ++ (headF s p).2) := rfl
end Go.Proofs.YtgipiplklaeplaaDoor
namespace Go.Proofs.YtgipiplklaeplaaDoor
open Go.RowKit
theorem buildF_fun (s : St) (t : Tm) (h : t.c0.kind = 3) :
  buildF s t = (setsF ((argsF s t.args).1.bump.emit { op := 8, a := (argsF s t.args).1.next, name := t.c0.name, n := t.c0.n }) t.args (argsF s t.args).2, ((argsF s t.args).1.next : Int)) := by
 obtain ⟨nm, us, rfl⟩ := (c0_kind3 t).1 h
 rfl
theorem buildF_one (s : St) (t : Tm) (h : t.c0.kind ≠ 3) : buildF s t = (s, -1) := by
 cases t with
 | v n => rfl
 | i n => rfl
 | f nm us => exact absurd rfl h
theorem argsF_cons (s : St) (t : Tm) (ts : List Tm) : argsF s (t :: ts) = ((argsF (buildF s t).1 ts).1, (buildF s t).2 :: (argsF (buildF s t).1 ts).2) := rfl
theorem argsF_nil (s : St) : argsF s [] = (s, []) := rfl
theorem setsF_fun (s : St) (t : Tm) (ts : List Tm) (x : Int) (xs : List Int) (h : t.c0.kind = 3) : setsF s (t :: ts) (x :: xs) = setsF (s.emit { op := 10, x := x }) ts xs := by
 obtain ⟨nm, us, rfl⟩ := (c0_kind3 t).1 h
 rfl
theorem setsF_one (s : St) (t : Tm) (ts : List Tm) (x : Int) (xs : List Int) (h : t.c0.kind ≠ 3) : setsF s (t :: ts) (x :: xs) = setsF (oneF 9 10 11 s t) ts xs := by
 cases t with
 | v n => rfl
 | i n => rfl
 | f nm us => exact absurd rfl h
theorem argsF_len : ∀ (ts : List Tm) (s : St), (argsF s ts).2.length = ts.length
 | [], _ => rfl
 | t :: ts, s => by rw [argsF_cons, List.length_cons, List.length_cons, argsF_len ts]
theorem setsF_room : ∀ (ts : List Tm) (xs : List Int) (s : St) (k : Nat), s.room (ts.length + k) → (setsF s ts xs).room k
 | [], xs, s, k, h => by
  have : setsF s [] xs = s := by cases xs <;> rfl
  rw [this]; exact h.le (by simp)
 | t :: ts, [], s, k, h => by
  have : setsF s (t :: ts) [] = s := by cases t <;> rfl
  rw [this]; exact h.le (by omega)
 | t :: ts, x :: xs, s, k, h => by
  rw [List.length_cons] at h
  by_cases hk : t.c0.kind = 3
  ·rw [setsF_fun _ _ _ _ _ hk]
   exact setsF_room ts xs _ k (room_emit _ (h.le (by omega)))
  ·rw [setsF_one _ _ _ _ _ hk]
   exact setsF_room ts xs _ k (room_one _ _ _ _ (h.le (by omega)))
def bwt (t : Tm) : Nat := if t.c0.kind = 3 then 1 + 2 * sizes t.args else 0
def bwts : List Tm → Nat
 | [] => 0
 | t :: ts => bwt t + bwts ts
theorem bwts_le : ∀ ts : List Tm, bwts ts + ts.length ≤ 2 * sizes ts
 | [] => by simp [bwts]
 | t :: ts => by
  have := bwts_le ts
  have e : bwts (t :: ts) = bwt t + bwts ts := rfl
  rw [e, sizes_cons, size_args, List.length_cons]
  unfold bwt
  split <;> omega
mutual
theorem buildF_room : ∀ (t : Tm) (s : St) (k : Nat), s.room (bwt t + k) → (buildF s t).1.room k
 | .v n, s, k, h => h.le (by simp [bwt])
 | .i n, s, k, h => h.le (by simp [bwt])
 | .f nm us, s, k, h => by
  rw [buildF_fun s _ rfl]
  have hw : bwt (.f nm us) = 1 + 2 * sizes us := rfl
  have hle := bwts_le us
  rw [hw] at h
  have h1 := argsF_room us s (us.length + k + 1) (h.le (by omega))
  refine setsF_room _ _ _ k ?_
  refine ⟨?_, ?_, ?_⟩
  ·have := h1.code; simp [Tm.args, St.emit, St.bump]; omega
  ·have := h1.next; simp [Tm.args, St.emit, St.bump]; omega
  ·have := h1.vars; simp [Tm.args, St.emit, St.bump]; omega
theorem argsF_room : ∀ (ts : List Tm) (s : St) (k : Nat), s.room (bwts ts + k) → (argsF s ts).1.room k
 | [], s, k, h => h.le (by omega)
 | t :: ts, s, k, h => by
  rw [argsF_cons]
  have e : bwts (t :: ts) = bwt t + bwts ts := rfl
  rw [e] at h
  exact argsF_room ts _ k (buildF_room t s (bwts ts + k) (h.le (by omega)))
end
theorem buildF_small (s : St) (t : Tm) (h : s.room (bwt t)) : -1 ≤ (buildF s t).2 ∧ (buildF s t).2 ≤ 100000 := by
 by_cases hk : t.c0.kind = 3
 ·rw [buildF_fun s t hk]
  have hle := bwts_le t.args
  have hb : bwt t = 1 + 2 * sizes t.args := by simp [bwt, hk]
  rw [hb] at h
  have := (argsF_room t.args s 0 (h.le (by omega))).next
  exact ⟨by simp only; omega, by simp only; omega⟩
 ·rw [buildF_one s t hk]; exact ⟨by simp, by simp⟩
def belowL : Nat → List Tm → List Int → List (Int × Value)
 | j, t :: ts, x :: xs => if t.c0.kind = 3 then ((j : Int), Value.int .i64 x) :: belowL (j + 1) ts xs else belowL (j + 1) ts xs
 | _, _, _ => []
theorem belowL_snoc (t : Tm) (x : Int) : ∀ (ts : List Tm) (xs : List Int) (j : Nat), xs.length = ts.length → belowL j (ts ++ [t]) (xs ++ [x]) = belowL j ts xs ++ (if t.c0.kind = 3 then [(((j + ts.length : Nat) : Int), Value.int .i64 x)] else [])
 | [], [], j, _ => by simp [belowL]
 | u :: ts, y :: xs, j, h => by
  have := belowL_snoc t x ts xs (j + 1) (by simpa using h)
  simp only [List.cons_append, belowL]
  rw [this, show j + 1 + ts.length = j + (u :: ts).length by simp; omega]
  split <;> rfl
 | [], _ :: _, _, h => by simp at h
 | _ :: _, [], _, h => by simp at h
theorem belowL_look : ∀ (ts : List Tm) (xs : List Int) (j k : Nat), xs.length = ts.length → look (belowL j ts xs) ((j + k : Nat) : Int) = match ts[k]?, xs[k]? with
  | some t, some x => if t.c0.kind = 3 then some (.int .i64 x) else none
  | _, _ => none
 | [], [], j, k, _ => by simp [belowL, look]
 | t :: ts, x :: xs, j, 0, _ => by
  have hno : ∀ (ts : List Tm) (xs : List Int) (j m : Nat), m < j → look (belowL j ts xs) (m : Int) = none := by
   intro ts
   induction ts with
   | nil => intro xs j m _; simp [belowL, look]
   | cons t ts ih =>
    intro xs j m hm
    cases xs with
    | nil => simp [belowL, look]
    | cons x xs =>
     simp only [belowL]
     split
     ·simp only [look]
      rw [if_neg (by omega)]
      exact ih xs (j + 1) m (by omega)
     ·exact ih xs (j + 1) m (by omega)
  simp only [belowL, Nat.add_zero, List.getElem?_cons_zero]
  split
  ·simp [look]
  ·exact hno ts xs (j + 1) j (by omega)
 | t :: ts, x :: xs, j, k + 1, h => by
  have ih := belowL_look ts xs (j + 1) k (by simpa using h)
  rw [show j + 1 + k = j + (k + 1) by omega] at ih
  simp only [belowL, List.getElem?_cons_succ]
  split
  ·simp only [look]
   rw [if_neg (by omega)]
   exact ih
  ·exact ih
 | [], _ :: _, _, _, h => by simp at h
 | _ :: _, [], _, _, h => by simp at h
theorem belowL_len : ∀ (ts : List Tm) (xs : List Int) (j : Nat), (belowL j ts xs).length ≤ ts.length
 | [], _, _ => by simp [belowL]
 | t :: ts, [], _ => by simp [belowL]
 | t :: ts, x :: xs, j => by
  have := belowL_len ts xs (j + 1)
  simp only [belowL]
  split <;> simp <;> omega
theorem Apart.one {w w' : World} {b : Nat} (h : w.grownBy w' (some b)) : Apart w w' (some ⟨b, 0, none⟩) none :=
 ⟨h.size, fun g hg hne => h.block g hg (by have := hne _ rfl; simp at this; simp; omega), fun a ha => by cases ha⟩
end Go.Proofs.YtgipiplklaeplaaDoor
