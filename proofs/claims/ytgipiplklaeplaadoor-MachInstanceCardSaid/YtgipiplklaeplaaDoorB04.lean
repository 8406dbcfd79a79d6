/- Texts of this proof that belong together: words of memory, plain laws, walks. -/
import Derived.ArgAppend
import Derived.Deep.RegionHeldLaw
import Derived.Test.YtgipiplklaeplaaDoorB01
set_option linter.unusedVariables false
set_option linter.unusedSimpArgs false
namespace Go.Proofs.YtgipiplklaeplaaDoor
section
variable {P : Program} {ops : Array Oper} {Q : Exit → Act → World → Prop} {md : Region.Mode} {S : World → Prop} {L : Nat}
def anyBut (P : Program) (md : Region.Mode) (ops : Array Oper) (Q : Exit → Act → World → Prop) (S : World → Prop) (L : Nat) : Nat → Array Bool → Act → World → Prop
 | 0, ls, a, w => Region.ready md ops ls = [] ∧ Q .normal a w
 | n + 1, ls, a, w => (Region.ready md ops ls = [] → Q .normal a w) ∧
   ∀ j ∈ Region.ready md ops ls, wpOp P ops Q j (fun b v => (j = L ∨ S v) ∧ anyBut P md ops Q S L n (ls.setIfInBounds j true) b v) a w
theorem any_of_but : ∀ (n : Nat) (ls : Array Bool) (a : Act) (w : World), anyBut P md ops Q S L n ls a w → wpAny P md ops Q n ls a w
 | 0, _, _, _, h => h
 | n + 1, _, _, _, h => ⟨h.1, fun j hj => wpOp_mono (fun b v hb => any_of_but n _ b v hb.2) (h.2 j hj)⟩
def waits (md : Region.Mode) (ops : Array Oper) (L i : Nat) : Bool :=
 match ops[L]? with
 | none => false
 | some o => o.after.any fun e => Region.binds md e && e.on == i
theorem not_last {i j : Nat} {ls : Array Bool} (hw : waits md ops L i = true) (hi : i ∈ Region.ready md ops ls) (hj : j ∈ Region.ready md ops ls) : j ≠ L := by
 rintro rfl
 obtain ⟨_, o, ho, hall⟩ := mem_ready.1 hj
 obtain ⟨h0, o2, ho2, _⟩ := mem_ready.1 hi
 unfold waits at hw
 rw [ho] at hw
 obtain ⟨k, hk, hb2⟩ := Array.any_eq_true.1 hw
 have he : o.after[k] ∈ o.after := Array.getElem_mem hk
 generalize o.after[k] = e at he hb2
 simp only [Bool.and_eq_true, beq_iff_eq] at hb2
 obtain ⟨hb, rfl⟩ := hb2
 have h1 := hall e he hb
 rcases Nat.lt_or_ge e.on ls.size with h2 | h2
 ·simp [h2] at h0 h1
  rw [h0] at h1
  cases h1
 ·simp [Array.getElem?_eq_none h2] at h1
theorem but_first {i : Nat} {oi : Oper} {v : Value} (hi : ops[i]? = some oi) (hsel : ∀ (j : Nat) (o : Oper) cs b, ops[j]? = some o → o.op ≠ .select cs b)
  (hQ : ∀ c a w, Q (.panic c) (a.put oi.dst v) w → Q (.panic c) a w) (hw : waits md ops L i = true) :
  ∀ (n : Nat) (ls : Array Bool) (a : Act) (w : World),
   (∀ j oj, ops[j]? = some oj → j ≠ i → ls.getD j true = false → (∀ e ∈ oj.after, Region.binds md e = true → e.on ≠ i) → oi.apart ops oj = true) →
   i ∈ Region.ready md ops ls → YieldsIf P ops S oi v a → S w →
   anyBut P md ops Q S L n (ls.setIfInBounds i true) (a.put oi.dst v) w → anyBut P md ops Q S L (n + 1) ls a w := by
 intro n
 induction n with
 | zero =>
  intro ls a w _ hr hy hS H
  refine ⟨fun h => (by rw [h] at hr; cases hr), fun j hj => ?_⟩
  by_cases hji : j = i
  ·subst hji; exact hy.wpOp hi hS ⟨.inr hS, H⟩
  ·have hm := ready_mono hj hji
   rw [H.1] at hm
   cases hm
 | succ n ih =>
  intro ls a w hfree hr hy hS H
  refine ⟨fun h => (by rw [h] at hr; cases hr), fun j hj => ?_⟩
  by_cases hji : j = i
  ·subst hji; exact hy.wpOp hi hS ⟨.inr hS, H⟩
  have hjL := not_last hw hr hj
  obtain ⟨hun, oj, hoj, hall⟩ := mem_ready.1 hj
  have hno : ∀ e ∈ oj.after, Region.binds md e = true → e.on ≠ i := fun e he hb heq => by
   have h1 := hall e he hb
   have h0 := (mem_ready.1 hr).1
   rw [heq] at h1
   rcases Nat.lt_or_ge i ls.size with h2 | h2
   ·simp [h2] at h0 h1; rw [h0] at h1; cases h1
   ·simp [Array.getElem?_eq_none h2] at h1
  have h2 := wpOp_putIf hoj (hfree j oj hoj hji hun hno) (fun cs b => hsel i oi cs b hi) (fun cs b => hsel j oj cs b hoj) hQ hy (H.2 j (ready_mono hj hji))
  refine wpOp_mono (fun b v h3 => ?_) h2
  have hSv : S v := h3.2.1.resolve_left hjL
  refine ⟨.inr hSv, ih (ls.setIfInBounds j true) b v (fun k ok hk hki hunk hnok => ?_) (ready_mono hr (Ne.symm hji)) h3.1 hSv ?_⟩
  ·refine hfree k ok hk hki ?_ hnok
   by_cases hjk : j = k
   ·subst hjk; exact hun
   ·rw [getD_set_ne true hjk] at hunk; exact hunk
  ·rw [Array.setIfInBounds_comm _ _ hji]
   exact h3.2.2
theorem but_take {i : Nat} {oi : Oper} {v : Value} {n : Nat} {ls : Array Bool} {a : Act} {w : World} (hi : ops[i]? = some oi)
  (hs : Region.noSelect ops = true) (hf : Region.free md ops ls i = true) (hr : (Region.ready md ops ls).contains i = true) (hw : waits md ops L i = true)
  (hQ : ∀ c a w, Q (.panic c) (a.put oi.dst v) w → Q (.panic c) a w) (hy : YieldsIf P ops S oi v a) (hS : S w)
  (h : anyBut P md ops Q S L n (ls.setIfInBounds i true) (a.put oi.dst v) w) : anyBut P md ops Q S L (n + 1) ls a w :=
 but_first hi (Region.noSelect_spec hs) hQ hw n ls a w (Region.free_spec hi hf) (by simpa using hr) hy hS h
theorem takeB (i : Nat) {oi : Oper} {v : Value} {n : Nat} {ls : Array Bool} {a : Act} {w : World} (hS : S w) (h : anyBut P md ops Q S L n (ls.setIfInBounds i true) (a.put oi.dst v) w)
  (hi : ops[i]? = some oi := by (simp only [List.getElem?_toArray, List.getElem?_cons_succ, List.getElem?_cons_zero]; exact rfl))
  (hs : Region.noSelect ops = true := by kernel_rfl) (hf : Region.free md ops ls i = true := by kernel_rfl) (hr : (Region.ready md ops ls).contains i = true := by kernel_rfl) (hl : waits md ops L i = true := by kernel_rfl)
  (hQ : ∀ c a' w', Q (.panic c) (a'.put oi.dst v) w' → Q (.panic c) a' w' := by exact fun _ _ _ h => h) (hw : Region.wanted oi (yielded ops a.tmps) = true := by rfl)
  (hy : ∀ w', S w' → (execOp a.eval oi).run P w' = .ok (.value v) w' := by (intro w hSw; (try dsimp only at hSw); go_simp <;> with_reducible rfl)) : anyBut P md ops Q S L (n + 1) ls a w :=
 but_take hi hs hf hr hl hQ (.inl ⟨hw, hy⟩) hS h
theorem but_one {i : Nat} {o : Oper} {n : Nat} {ls : Array Bool} {a : Act} {w : World} (hr : Region.ready md ops ls = [i]) (ho : ops[i]? = some o)
  (h : ∀ K : Act → World → Prop, Shut (∀ b v, (i = L ∨ S v) → anyBut P md ops Q S L n (ls.setIfInBounds i true) b v → K b v) → if Region.wanted o (yielded ops a.tmps) = true then Oper.wp P o a w K Q else K (a.put o.dst undef) w) :
  anyBut P md ops Q S L (n + 1) ls a w := by
 refine ⟨fun h0 => (by rw [h0] at hr; cases hr), fun j hj => ?_⟩
 rw [hr, List.mem_singleton] at hj
 subst hj
 exact wpOp_step ho (fun K hK => h K (fun b v hS hW => hK b v ⟨hS, hW⟩))
theorem but_done {ls : Array Bool} {a : Act} {w : World} (hr : Region.ready md ops ls = []) (h : Q .normal a w) : ∀ n, anyBut P md ops Q S L n ls a w
 | 0 => ⟨hr, h⟩
 | _ + 1 => ⟨fun _ => h, by rw [hr]; simp⟩
theorem region_but {id : Nat} {a : Act} {w : World} (L : Nat) (S : World → Prop) (hm : P.follows .mixedOrders = true)
  (h : anyBut P .any ops Q S L ops.size (Array.replicate ops.size false) a w.drew) : (Code.region id ops true).wp P Q a w :=
 wp_region_any hm (any_of_but _ _ _ _ h)
end
end Go.Proofs.YtgipiplklaeplaaDoor
namespace Go.Proofs.YtgipiplklaeplaaDoor
open Go.RowKit
section
variable {P : Program} {ops : Array Oper} {rest : List Oper} {o : Oper} {a : Act} {w : World} {Q : Exit → Act → World → Prop}
def Own0 (w : World) (base : Nat) (e : TypeId) (size : Nat) (v : Value) (n : Nat) (xs : List Value) : Prop :=
 (∃ A, v = .slice A 0 0 ∧ n = 0 ∧ xs = []) ∨ w.ownsRow base e size v n xs
theorem own_lower {w : World} {base base' : Nat} {e : TypeId} {size : Nat} {v : Value} {n : Nat} {xs : List Value} (h : w.ownsRow base e size v n xs) (hb : base' ≤ base) : w.ownsRow base' e size v n xs := by
 refine ⟨h.1, ?_⟩
 rcases h.2 with h2 | ⟨g, cap, cur, hv, hg, r⟩
 ·exact Or.inl h2
 ·exact Or.inr ⟨g, cap, cur, hv, by omega, r⟩
theorem Own0.below {w w' : World} {base : Nat} {e : TypeId} {size : Nat} {v : Value} {n : Nat} {xs : List Value} (h : Own0 w base e size v n xs) (hb : Below w.heap.size w w') : Own0 w' base e size v n xs := by
 rcases h with h | h
 ·exact .inl h
 ·exact .inr (own_below h hb)
theorem Own0.sl {w : World} {base size n cap : Nat} {e : TypeId} {A : Option Addr} {xs : List Value} (h : Own0 w base e size (.slice A n cap) n xs) (hs : 0 < size) : Sl w size A n cap xs := by
 rcases h with ⟨A', he, rfl, rfl⟩ | h
 ·injection he with _ _ h3
  subst h3
  exact ⟨by simp, Nat.le_refl _, by simp [maxLen], fun h => absurd h (by omega)⟩
 ·exact Sl.own h hs
end
end Go.Proofs.YtgipiplklaeplaaDoor
namespace Go.Proofs.YtgipiplklaeplaaDoor
open Go.RowKit
structure Apart (w w' : World) (As A' : Option Addr) : Prop where
 size : w.heap.size ≤ w'.heap.size
 old : ∀ g, g < w.heap.size → (∀ a, As = some a → a.block ≠ g) → w'.heap[g]? = w.heap[g]?
 blk : ∀ a', A' = some a' → a'.block < w'.heap.size ∧ ((∃ a, As = some a ∧ a'.block = a.block) ∨ w.heap.size ≤ a'.block)
theorem Sl.apart {w w' : World} {As A' A : Option Addr} {size n c : Nat} {xs : List Value} (h : Sl w size A n c xs) (hp : Apart w w' As A') (hs : ∀ a a', As = some a → A = some a' → a.block ≠ a'.block) : Sl w' size A n c xs := by
 refine ⟨h.len, h.hcap, h.hmax, fun hn => ?_⟩
 obtain ⟨b, off, rfl, hb, hc⟩ := h.cells hn
 refine ⟨b, off, rfl, Nat.lt_of_lt_of_le hb hp.size, fun j u hu => ?_⟩
 rw [← hc j u hu]
 exact World.cell?_of_block (hp.old b hb fun a ha => hs a _ ha rfl)
theorem IsI.apart {w w' : World} {As A' A : Option Addr} {n c : Nat} {xs : List Int} (h : IsI w A n c xs) (hp : Apart w w' As A') (hs : ∀ a a', As = some a → A = some a' → a.block ≠ a'.block) : IsI w' A n c xs := ⟨h.sl.apart hp hs, h.wf⟩
theorem IsC.apart {w w' : World} {As A' A : Option Addr} {n c : Nat} {xs : List C} (h : IsC w A n c xs) (hp : Apart w w' As A') (hs : ∀ a a', As = some a → A = some a' → a.block ≠ a'.block) : IsC w' A n c xs := ⟨h.sl.apart hp hs, h.wf⟩
theorem Own0.lt {w : World} {base size n m cap : Nat} {e : TypeId} {A : Option Addr} {xs : List Value} (h : w.ownsRow base e size (.slice A m cap) n xs) : ∀ a, A = some a → base ≤ a.block ∧ a.block < w.heap.size := fun a ha => by
 subst ha
 exact h.lt _ rfl
section
variable {P : Program} {ops : Array Oper} {rest : List Oper} {o : Oper} {a : Act} {w : World} {Q : Exit → Act → World → Prop}
theorem wpList_append_own1 (hw : Region.wanted o (yielded ops a.tmps) = true) (s x : Operand) (t : TypeId) (ho : o.op = .call { callee := .builtin .append, args := #[s, x], argTypes := #[t, t] })
  (base : Nat) (e : TypeId) {z : Value} {size bytes : Nat} (ht : P.underlying t = some (.slice e)) (hinfo : (P.info? e).map (fun i => (i.zero, i.size, i.bytes)) = some (some z, size, bytes))
  (hzs : z.cells.size = size) (hsz : 0 < size) {As : Option Addr} {n cs : Nat} {xs : List Value} (hs : a.eval s = .slice As n cs) (hown : Own0 w base e size (.slice As n cs) n xs)
  {A : Option Addr} {m c : Nat} {news : List Value} (hx : a.eval x = .slice A m c) (hr : Sl w size A m c news) (h1 : ∀ u ∈ news, u.oneCell' = true) (hm : 0 < m)
  (h63 : n + m ≤ 1000000000000) (hbyt : bytes ≤ 64) (hbase : base ≤ w.heap.size)
  (k : ∀ A' cap' w', w'.ownsRow base e size (.slice A' (n + m) cap') (n + m) (xs ++ news) → Below base w w' → Apart w w' As A' → wpList P ops Q rest (a.put o.dst (.slice A' (n + m) cap')) w') :
  wpList P ops Q (o :: rest) a w := by
 have sl : ∀ {As : Option Addr} {n cs : Nat} {xs : List Value}, a.eval s = .slice As n cs → w.ownsRow base e size (.slice As n cs) n xs → n + m ≤ 1000000000000 → (∀ A' cap' w', w'.ownsRow base e size (.slice A' (n + m) cap') (n + m) (xs ++ news) → Below base w w' → Apart w w' As A' → wpList P ops Q rest (a.put o.dst (.slice A' (n + m) cap')) w') → wpList P ops Q (o :: rest) a w := by
  intro As n cs xs hs hown h63 k
  refine wpList_append_sl hw s x t ho base e ht hinfo hzs hsz hs hown hx hr h1 h63 hbyt hbase fun A' cap' w' h2 h3 h4 h5 => k A' cap' w' h2 h3 ⟨h4.size, fun g hg hne => h4.block g hg ?_, fun a' ha' => ⟨(Own0.lt h2 a' ha').2, ?_⟩⟩
  ·cases As with
   | none => simp [Value.ownBlock]
   | some b => have := hne b rfl; simp [Value.ownBlock]; omega
  ·subst ha'
   cases As with
   | none =>
    rcases h5 with h5 | h5
    ·simp [Value.ownBlock] at h5
    ·right; simp [Value.ownBlock] at h5; omega
   | some b =>
    rcases h5 with h5 | h5
    ·left; simp [Value.ownBlock] at h5; exact ⟨b, rfl, h5⟩
    ·right; simp [Value.ownBlock] at h5; omega
 rcases hown with ⟨As', he, rfl, rfl⟩ | hown
 ·injection he with he1 he2 he3
  subst he1; subst he3
  cases As with
  | none => exact sl hs (World.ownsRow_nil w base e size) h63 k
  | some b =>
   obtain ⟨i, hi, hz, hsize, hby⟩ := info_parts hinfo
   obtain ⟨b', off, rfl, hlt, hc⟩ := hr.cells hm
   obtain ⟨v', w', hrun, h2, h3⟩ := run_append_arg_grows (P := P) w t o.type e i z size bytes ht hi hz hsize hby hzs hsz b 0 0 [] (by simp) (by simp) ⟨b', off, none⟩ m c news hr.len
    (fun j u hu => by rw [Addr.add_lit]; exact hc j u hu) (by omega) (by simp only [maxLen]; omega) (by have : (0 + m) * bytes ≤ 1000000000000 * 64 := Nat.mul_le_mul h63 hbyt; omega)
   refine wpList_run (Φ := fun v' w' => w'.ownsRow w.heap.size e size v' (0 + m) ([] ++ news) ∧ w.grownBy w' none) hw ⟨v', w', ?_, h2, h3⟩ ?_
   ·simp only [execOp, ho, resolve, invoke, builtin, Sem.run_bind, Sem.run_pure, Result.andThen_ok, List.map_toArray, List.map_cons, List.map_nil, hs, hx, hrun]
   ·rintro v2 w2 ⟨g1, g2⟩
    obtain ⟨A', cap', rfl, _⟩ := Sl.of_own g1 hsz
    exact k A' cap' w2 (own_lower g1 hbase) ((Below.refl base w).grown g2 hbase (fun q hq => by cases hq)) ⟨g2.size, fun g hg _ => g2.block g hg (by simp), fun a' ha' => ⟨(Own0.lt g1 a' ha').2, .inr (Own0.lt g1 a' ha').1⟩⟩
 ·exact sl hs hown h63 k
end
end Go.Proofs.YtgipiplklaeplaaDoor
namespace Go.Proofs.YtgipiplklaeplaaDoor
open Go.RowKit
section
variable {P : Program} {ops : Array Oper} {o : Oper} {a : Act} {w : World} {K : Act → World → Prop} {Q : Exit → Act → World → Prop} {E : Prop}
def AppendedA (w : World) (base : Nat) (e : TypeId) (size n : Nat) (xs : List Value) (As : Option Addr) (v : Value) (w' : World) : Prop :=
 ∃ A' cap', v = .slice A' n cap' ∧ w'.ownsRow base e size (.slice A' n cap') n xs ∧ Below base w w' ∧ Apart w w' As A'
theorem run_append_ap (s x : Operand) (t : TypeId) (ho : o.op = .call { callee := .builtin .append, args := #[s, x], argTypes := #[t, t] })
  (base : Nat) (e : TypeId) {z : Value} {size bytes : Nat} (ht : P.underlying t = some (.slice e)) (hinfo : (P.info? e).map (fun i => (i.zero, i.size, i.bytes)) = some (some z, size, bytes))
  (hzs : z.cells.size = size) (hsz : 0 < size) {As : Option Addr} {n cs : Nat} {xs : List Value} (hs : a.eval s = .slice As n cs) (hown : Own0 w base e size (.slice As n cs) n xs)
  {A : Option Addr} {m c : Nat} {news : List Value} (hx : a.eval x = .slice A m c) (hr : Sl w size A m c news) (h1 : ∀ u ∈ news, u.oneCell' = true) (hm : 0 < m)
  (h63 : n + m ≤ 1000000000000) (hbyt : bytes ≤ 64) (hbase : base ≤ w.heap.size) :
  ∃ v w', (execOp a.eval o).run P w = .ok (.value v) w' ∧ AppendedA w base e size (n + m) (xs ++ news) As v w' := by
 obtain ⟨i, hi, hz, hsize, hby⟩ := info_parts hinfo
 have sl : ∀ {As : Option Addr} {n cs : Nat} {xs : List Value}, a.eval s = .slice As n cs → w.ownsRow base e size (.slice As n cs) n xs → n + m ≤ 1000000000000 → ∃ v w', (execOp a.eval o).run P w = .ok (.value v) w' ∧ AppendedA w base e size (n + m) (xs ++ news) As v w' := by
  intro As n cs xs hs hown h63
  obtain ⟨v', w', hrun, h2, h3, h4⟩ := run_append_sl (P := P) base t o.type e i z size bytes ht hi hz hsize hby hzs hsz _ n xs hown A m c news hr h1 (by simp only [maxLen]; omega)
   (by have : (n + m) * bytes ≤ 1000000000000 * 64 := Nat.mul_le_mul h63 hbyt; omega) hbase
  have hlt := hown.lt
  refine ⟨v', w', by simp only [execOp, ho, resolve, invoke, builtin, Sem.run_bind, Sem.run_pure, Result.andThen_ok, List.map_toArray, List.map_cons, List.map_nil, hs, hx, hrun], ?_⟩
  obtain ⟨A', cap', rfl, _⟩ := Sl.of_own h2 hsz
  refine ⟨A', cap', rfl, h2, (Below.refl base w).grown h3 hbase (fun q hq => (hlt q hq).1), ⟨h3.size, fun g hg hne => h3.block g hg ?_, fun a' ha' => ⟨(Own0.lt h2 a' ha').2, ?_⟩⟩⟩
  ·cases As with
   | none => simp [Value.ownBlock]
   | some b => have := hne b rfl; simp [Value.ownBlock]; omega
  ·subst ha'
   cases As with
   | none =>
    rcases h4 with h4 | h4
    ·simp [Value.ownBlock] at h4
    ·right; simp [Value.ownBlock] at h4; omega
   | some b =>
    rcases h4 with h4 | h4
    ·left; simp [Value.ownBlock] at h4; exact ⟨b, rfl, h4⟩
    ·right; simp [Value.ownBlock] at h4; omega
 rcases hown with ⟨As', he, rfl, rfl⟩ | hown
 ·injection he with he1 he2 he3
  subst he1; subst he3
  cases As with
  | none => exact sl hs (World.ownsRow_nil w base e size) h63
  | some b =>
   obtain ⟨b', off, rfl, hlt, hc⟩ := hr.cells hm
   obtain ⟨v', w', hrun, h2, h3⟩ := run_append_arg_grows (P := P) w t o.type e i z size bytes ht hi hz hsize hby hzs hsz b 0 0 [] (by simp) (by simp) ⟨b', off, none⟩ m c news hr.len
    (fun j u hu => by rw [Addr.add_lit]; exact hc j u hu) (by omega) (by simp only [maxLen]; omega) (by have : (0 + m) * bytes ≤ 1000000000000 * 64 := Nat.mul_le_mul h63 hbyt; omega)
   refine ⟨v', w', by simp only [execOp, ho, resolve, invoke, builtin, Sem.run_bind, Sem.run_pure, Result.andThen_ok, List.map_toArray, List.map_cons, List.map_nil, hs, hx, hrun], ?_⟩
   obtain ⟨A', cap', rfl, _⟩ := Sl.of_own h2 hsz
   exact ⟨A', cap', rfl, own_lower h2 hbase, (Below.refl base w).grown h3 hbase (fun q hq => by cases hq), ⟨h3.size, fun g hg _ => h3.block g hg (by simp), fun a' ha' => ⟨(Own0.lt h2 a' ha').2, .inr (Own0.lt h2 a' ha').1⟩⟩⟩
 ·exact sl hs hown h63
theorem step_of_runA (hw : Region.wanted o (yielded ops a.tmps) = true) {Φ : Value → World → Prop} (hr : ∃ v w', (execOp a.eval o).run P w = .ok (.value v) w' ∧ Φ v w')
  (k : ∀ v w', Φ v w' → K (a.put o.dst v) w') : if Region.wanted o (yielded ops a.tmps) = true then o.wp P a w K Q else E := by
 obtain ⟨v, w', hr, hp⟩ := hr
 rw [if_pos hw]
 unfold Oper.wp
 rw [hr]
 exact k v w' hp
theorem step_append_ap (hw : Region.wanted o (yielded ops a.tmps) = true) (s x : Operand) (t : TypeId) (ho : o.op = .call { callee := .builtin .append, args := #[s, x], argTypes := #[t, t] })
  (base : Nat) (e : TypeId) {z : Value} {size bytes : Nat} (ht : P.underlying t = some (.slice e)) (hinfo : (P.info? e).map (fun i => (i.zero, i.size, i.bytes)) = some (some z, size, bytes))
  (hzs : z.cells.size = size) (hsz : 0 < size) {As : Option Addr} {n cs : Nat} {xs : List Value} (hs : a.eval s = .slice As n cs) (hown : Own0 w base e size (.slice As n cs) n xs)
  {A : Option Addr} {m c : Nat} {news : List Value} (hx : a.eval x = .slice A m c) (hr : Sl w size A m c news) (h1 : ∀ u ∈ news, u.oneCell' = true) (hm : 0 < m)
  (h63 : n + m ≤ 1000000000000) (hbyt : bytes ≤ 64) (hbase : base ≤ w.heap.size)
  (k : ∀ A' cap' w', w'.ownsRow base e size (.slice A' (n + m) cap') (n + m) (xs ++ news) → Below base w w' → Apart w w' As A' → K (a.put o.dst (.slice A' (n + m) cap')) w') :
  if Region.wanted o (yielded ops a.tmps) = true then o.wp P a w K Q else E :=
 step_of_runA hw (run_append_ap s x t ho base e ht hinfo hzs hsz hs hown hx hr h1 hm h63 hbyt hbase) fun v w' ⟨A', cap', hv, h2, h3, h4⟩ => by
  subst hv
  exact k A' cap' w' h2 h3 h4
end
end Go.Proofs.YtgipiplklaeplaaDoor
namespace Go.Proofs.YtgipiplklaeplaaDoor
open Go.RowKit
structure ApartZ (w w' : World) (As : Option Addr) (cs : Nat) (A' : Option Addr) : Prop where
 size : w.heap.size ≤ w'.heap.size
 old : ∀ g, g < w.heap.size → (0 < cs → ∀ a, As = some a → a.block ≠ g) → w'.heap[g]? = w.heap[g]?
 blk : ∀ a', A' = some a' → a'.block < w'.heap.size ∧ ((∃ a, As = some a ∧ 0 < cs ∧ a'.block = a.block) ∨ w.heap.size ≤ a'.block)
theorem own_capz {w : World} {base size n : Nat} {e : TypeId} {A : Option Addr} {xs : List Value} (h : Own0 w base e size (.slice A n 0) n xs) : n = 0 ∧ xs = [] := by
 rcases h with ⟨A', he, h1, h2⟩ | h
 ·exact ⟨h1, h2⟩
 ·have hl := h.1
  rcases h.2 with ⟨h1, h2⟩ | ⟨g, cap, cur, h1, _, _, h2, _⟩
  ·subst h2; simp at hl; exact ⟨rfl, hl⟩
  ·injection h1 with e1 e2 e3
   subst e3
   have : n = 0 := by omega
   subst this
   simp at hl
   exact ⟨rfl, hl⟩
section
variable {P : Program} {ops : Array Oper} {rest : List Oper} {o : Oper} {a : Act} {w : World} {K : Act → World → Prop} {Q : Exit → Act → World → Prop} {E : Prop}
def AppendedZ (w : World) (base : Nat) (e : TypeId) (size n : Nat) (xs : List Value) (As : Option Addr) (cs : Nat) (v : Value) (w' : World) : Prop :=
 ∃ A' cap', v = .slice A' n cap' ∧ w'.ownsRow base e size (.slice A' n cap') n xs ∧ Below base w w' ∧ ApartZ w w' As cs A'
theorem run_append_z (s x : Operand) (t : TypeId) (ho : o.op = .call { callee := .builtin .append, args := #[s, x], argTypes := #[t, t] })
  (base : Nat) (e : TypeId) {z : Value} {size bytes : Nat} (ht : P.underlying t = some (.slice e)) (hinfo : (P.info? e).map (fun i => (i.zero, i.size, i.bytes)) = some (some z, size, bytes))
  (hzs : z.cells.size = size) (hsz : 0 < size) {As : Option Addr} {n cs : Nat} {xs : List Value} (hs : a.eval s = .slice As n cs) (hown : Own0 w base e size (.slice As n cs) n xs)
  {A : Option Addr} {m c : Nat} {news : List Value} (hx : a.eval x = .slice A m c) (hr : Sl w size A m c news) (h1 : ∀ u ∈ news, u.oneCell' = true) (hm : 0 < m)
  (h63 : n + m ≤ 1000000000000) (hbyt : bytes ≤ 64) (hbase : base ≤ w.heap.size) :
  ∃ v w', (execOp a.eval o).run P w = .ok (.value v) w' ∧ AppendedZ w base e size (n + m) (xs ++ news) As cs v w' := by
 rcases Nat.eq_zero_or_pos cs with h0 | h0
 ·subst h0
  obtain ⟨rfl, rfl⟩ := own_capz hown
  cases As with
  | none =>
   obtain ⟨v, w', hrun, A', cap', rfl, h2, h3, h4⟩ := run_append_ap s x t ho base e ht hinfo hzs hsz hs (.inl ⟨none, rfl, rfl, rfl⟩) hx hr h1 hm h63 hbyt hbase
   exact ⟨_, w', hrun, A', cap', rfl, h2, h3, ⟨h4.size, fun g hg _ => h4.old g hg (by simp), fun a' ha' => ⟨(h4.blk a' ha').1, by
    rcases (h4.blk a' ha').2 with ⟨a, ha, _⟩ | h5
    ·cases ha
    ·exact .inr h5⟩⟩⟩
  | some b =>
   obtain ⟨i, hi, hz, hsize, hby⟩ := info_parts hinfo
   obtain ⟨b', off, rfl, hlt, hc⟩ := hr.cells hm
   obtain ⟨v', w', hrun, h2, h3⟩ := run_append_arg_grows (P := P) w t o.type e i z size bytes ht hi hz hsize hby hzs hsz b 0 0 [] (by simp) (by simp) ⟨b', off, none⟩ m c news hr.len
    (fun j u hu => by rw [Addr.add_lit]; exact hc j u hu) (by omega) (by simp only [maxLen]; omega) (by have : (0 + m) * bytes ≤ 1000000000000 * 64 := Nat.mul_le_mul h63 hbyt; omega)
   refine ⟨v', w', by simp only [execOp, ho, resolve, invoke, builtin, Sem.run_bind, Sem.run_pure, Result.andThen_ok, List.map_toArray, List.map_cons, List.map_nil, hs, hx, hrun], ?_⟩
   obtain ⟨A', cap', rfl, _⟩ := Sl.of_own h2 hsz
   exact ⟨A', cap', rfl, own_lower h2 hbase, (Below.refl base w).grown h3 hbase (fun q hq => by cases hq), ⟨h3.size, fun g hg _ => h3.block g hg (by simp), fun a' ha' => ⟨(Own0.lt h2 a' ha').2, .inr (Own0.lt h2 a' ha').1⟩⟩⟩
 ·obtain ⟨v, w', hrun, A', cap', rfl, h2, h3, h4⟩ := run_append_ap s x t ho base e ht hinfo hzs hsz hs hown hx hr h1 hm h63 hbyt hbase
  exact ⟨_, w', hrun, A', cap', rfl, h2, h3, ⟨h4.size, fun g hg hne => h4.old g hg (hne h0), fun a' ha' => ⟨(h4.blk a' ha').1, by
   rcases (h4.blk a' ha').2 with ⟨a, ha, h5⟩ | h5
   ·exact .inl ⟨a, ha, h0, h5⟩
   ·exact .inr h5⟩⟩⟩
theorem step_append_z (hw : Region.wanted o (yielded ops a.tmps) = true) (s x : Operand) (t : TypeId) (ho : o.op = .call { callee := .builtin .append, args := #[s, x], argTypes := #[t, t] })
  (base : Nat) (e : TypeId) {z : Value} {size bytes : Nat} (ht : P.underlying t = some (.slice e)) (hinfo : (P.info? e).map (fun i => (i.zero, i.size, i.bytes)) = some (some z, size, bytes))
  (hzs : z.cells.size = size) (hsz : 0 < size) {As : Option Addr} {n cs : Nat} {xs : List Value} (hs : a.eval s = .slice As n cs) (hown : Own0 w base e size (.slice As n cs) n xs)
  {A : Option Addr} {m c : Nat} {news : List Value} (hx : a.eval x = .slice A m c) (hr : Sl w size A m c news) (h1 : ∀ u ∈ news, u.oneCell' = true) (hm : 0 < m)
  (h63 : n + m ≤ 1000000000000) (hbyt : bytes ≤ 64) (hbase : base ≤ w.heap.size)
  (k : ∀ A' cap' w', w'.ownsRow base e size (.slice A' (n + m) cap') (n + m) (xs ++ news) → Below base w w' → ApartZ w w' As cs A' → K (a.put o.dst (.slice A' (n + m) cap')) w') :
  if Region.wanted o (yielded ops a.tmps) = true then o.wp P a w K Q else E :=
 step_of_runA hw (run_append_z s x t ho base e ht hinfo hzs hsz hs hown hx hr h1 hm h63 hbyt hbase) fun v w' ⟨A', cap', hv, h2, h3, h4⟩ => by
  subst hv
  exact k A' cap' w' h2 h3 h4
theorem wpList_append_z (hw : Region.wanted o (yielded ops a.tmps) = true) (s x : Operand) (t : TypeId) (ho : o.op = .call { callee := .builtin .append, args := #[s, x], argTypes := #[t, t] })
  (base : Nat) (e : TypeId) {z : Value} {size bytes : Nat} (ht : P.underlying t = some (.slice e)) (hinfo : (P.info? e).map (fun i => (i.zero, i.size, i.bytes)) = some (some z, size, bytes))
  (hzs : z.cells.size = size) (hsz : 0 < size) {As : Option Addr} {n cs : Nat} {xs : List Value} (hs : a.eval s = .slice As n cs) (hown : Own0 w base e size (.slice As n cs) n xs)
  {A : Option Addr} {m c : Nat} {news : List Value} (hx : a.eval x = .slice A m c) (hr : Sl w size A m c news) (h1 : ∀ u ∈ news, u.oneCell' = true) (hm : 0 < m)
  (h63 : n + m ≤ 1000000000000) (hbyt : bytes ≤ 64) (hbase : base ≤ w.heap.size)
  (k : ∀ A' cap' w', w'.ownsRow base e size (.slice A' (n + m) cap') (n + m) (xs ++ news) → Below base w w' → ApartZ w w' As cs A' → wpList P ops Q rest (a.put o.dst (.slice A' (n + m) cap')) w') :
  wpList P ops Q (o :: rest) a w :=
 wpList_run hw (run_append_z s x t ho base e ht hinfo hzs hsz hs hown hx hr h1 hm h63 hbyt hbase) fun v w' ⟨A', cap', hv, h2, h3, h4⟩ => by
  subst hv
  exact k A' cap' w' h2 h3 h4
end
end Go.Proofs.YtgipiplklaeplaaDoor
namespace Go.Proofs.YtgipiplklaeplaaDoor
open Go.RowKit
theorem cells_of {w : World} {b : Nat} {cs : Array Value} {t : TypeId} (h : w.heap[b]? = some (.cells cs t (0, 0))) (k : Nat) : w.cell? ⟨b, k, none⟩ = cs[k]? := cell_of_row w b k cs t (0, 0) h
theorem block_lt {w : World} {b : Nat} {x : Obj} (h : w.heap[b]? = some x) : b < w.heap.size := (Array.getElem?_eq_some_iff.1 h).1
theorem alloc_at {w : World} {g : Nat} {o : Obj} (hg : w.heap.size = g) : (w.alloc o).heap[g]? = some o := by rw [← hg]; exact heap_alloc_new w o
theorem alloc_past {w : World} {g : Nat} {o : Obj} (hg : g < w.heap.size) : (w.alloc o).heap[g]? = w.heap[g]? := heap_alloc_old w o hg
theorem Sl.blk {w : World} {g size n : Nat} {cs : Array Value} {t : TypeId} (h : w.heap[g]? = some (.cells cs t (0, 0))) (hl : cs.size = n * size) (hn : n ≤ maxLen) : Sl w size (some ⟨g, 0, none⟩) n n cs.toList :=
 ⟨by simpa using hl, Nat.le_refl _, hn, fun _ => ⟨g, 0, rfl, block_lt h, fun j u hu => by rw [Nat.zero_add, cells_of h, ← Array.getElem?_toList]; exact hu⟩⟩
theorem frozen_of {w : World} {b : Nat} {cs : Array Value} {t : TypeId} (h : w.heap[b]? = some (.cells cs t (0, 0))) (k : Nat) : w.frozen? ⟨b, k, none⟩ = false := by simp [World.frozen?, h]
theorem set_block {w : World} {b k : Nat} {cs : Array Value} {t : TypeId} (h : w.heap[b]? = some (.cells cs t (0, 0))) (v : Value) : (w.setCell ⟨b, k, none⟩ v).heap[b]? = some (.cells (cs.setIfInBounds k v) t (0, 0)) := by
 simp [World.setCell, Array.getElem?_modify, h]
theorem set_other {w : World} {b k g : Nat} (hne : g ≠ b) (v : Value) : (w.setCell ⟨b, k, none⟩ v).heap[g]? = w.heap[g]? := RowKit.Below.heap_setCell _ _ _ _ hne
theorem own_ne {w : World} {base size n cap g : Nat} {e : TypeId} {A : Option Addr} {xs : List Value} {x : Obj} (h : w.ownsRow base e size (.slice A n cap) n xs) (hx : w.heap[g]? = some x) (hne : ∀ cur, x ≠ .cells cur e (0, 0)) : ∀ a, A = some a → a.block ≠ g := by
 intro a ha hg
 rcases h.2 with ⟨h1, _⟩ | ⟨g', cap', cur, h1, _, h2, _⟩
 ·injection h1 with h1; rw [ha] at h1; cases h1
 ·injection h1 with h1
  rw [ha] at h1
  injection h1 with h1
  rw [h1] at hg
  simp at hg
  subst hg
  rw [hx] at h2
  injection h2 with h2
  exact hne cur h2
theorem own_at {w w' : World} {base size n cap : Nat} {e : TypeId} {A : Option Addr} {xs : List Value} (h : w.ownsRow base e size (.slice A n cap) n xs) (hk : ∀ a, A = some a → w'.heap[a.block]? = w.heap[a.block]?) : w'.ownsRow base e size (.slice A n cap) n xs := by
 refine ⟨h.1, ?_⟩
 rcases h.2 with h2 | ⟨g, cap', cur, hv, hg, hh, r⟩
 ·exact .inl h2
 ·refine .inr ⟨g, cap', cur, hv, hg, ?_, r⟩
  injection hv with hv
  have := hk _ hv
  simp at this
  rw [this]
  exact hh
theorem open2 {w : World} {b : Nat} {v0 v1 : Value} {t : TypeId} (h : w.heap[b]? = some (.cells #[v0, v1] t (0, 0))) :
  w.cell? ⟨b, 0, none⟩ = some v0 ∧ w.cell? ⟨b, 1, none⟩ = some v1 ∧ b < w.heap.size := ⟨cells_of h 0, cells_of h 1, block_lt h⟩
theorem open3 {w : World} {b : Nat} {v0 v1 v2 : Value} {t : TypeId} (h : w.heap[b]? = some (.cells #[v0, v1, v2] t (0, 0))) :
  w.cell? ⟨b, 0, none⟩ = some v0 ∧ w.cell? ⟨b, 1, none⟩ = some v1 ∧ w.cell? ⟨b, 2, none⟩ = some v2 ∧ b < w.heap.size := ⟨cells_of h 0, cells_of h 1, cells_of h 2, block_lt h⟩
theorem wp_world' {P : Program} {c : Code} {Q : Exit → Act → World → Prop} {a : Act} {w : World} (Φ : World → Prop) (h : Φ w) (k : ∀ X, Φ X → c.wp P Q a X) : c.wp P Q a w := k w h
end Go.Proofs.YtgipiplklaeplaaDoor
