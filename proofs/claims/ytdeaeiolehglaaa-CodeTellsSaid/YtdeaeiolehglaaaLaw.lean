/- Laws of the walk for operations that make memory, each in the form that the walk takes. No program in sight. -/
import Derived.Test.YtdeaeiolehglaaaTerm
set_option linter.unusedVariables false
set_option linter.unusedSimpArgs false
namespace Go.Proofs.Ytdeaeiolehglaaa
open Go.RowKit

structure IsR (w : World) (A : Option Addr) (n cap : Nat) (rs : List Int) : Prop where
  sl : Sl w 1 A n cap (rs.map (Value.int .i32))
  wf : ∀ x ∈ rs, -2147483648 ≤ x ∧ x ≤ 2147483647
theorem IsR.len {w : World} {A : Option Addr} {n cap : Nat} {rs : List Int} (h : IsR w A n cap rs) : rs.length = n := by
  have := h.sl.len
  rw [List.length_map] at this
  omega
theorem IsR.at_ {w : World} {A : Option Addr} {n cap : Nat} {rs : List Int} (h : IsR w A n cap rs) {k : Nat} {x : Int} (hk : rs[k]? = some x) :
    ∃ b off, A = some ⟨b, off, none⟩ ∧ b < w.heap.size ∧ (-2147483648 ≤ x ∧ x ≤ 2147483647) ∧ w.cell? ⟨b, off + k, none⟩ = some (.int .i32 x) := by
  have hlt : k < rs.length := (List.getElem?_eq_some_iff.1 hk).1
  obtain ⟨b, off, rfl, hb, hc⟩ := h.sl.cells (by have := h.len; omega)
  exact ⟨b, off, rfl, hb, h.wf x (List.mem_of_getElem? hk), hc _ _ (by rw [List.getElem?_map, hk]; rfl)⟩
theorem IsR.get {w : World} {A : Option Addr} {n cap : Nat} {rs : List Int} (h : IsR w A n cap rs) {k : Nat} (hk : k < n) : ∃ x, rs[k]? = some x :=
  ⟨_, List.getElem?_eq_getElem (by have := h.len; omega)⟩

section
variable {P : Program} {w : World} {ops : Array Oper} {rest : List Oper} {o : Oper} {a : Act} {Q : Exit → Act → World → Prop}

/-- an operation whose run is known: the walk goes on behind it -/
theorem wpList_run (hw : Region.wanted o (yielded ops a.tmps) = true) {Φ : Value → World → Prop} (hr : ∃ v w', (execOp a.eval o).run P w = .ok (.value v) w' ∧ Φ v w')
    (k : ∀ v w', Φ v w' → wpList P ops Q rest (a.put o.dst v) w') : wpList P ops Q (o :: rest) a w := by
  obtain ⟨v, w', hr, hp⟩ := hr
  refine wpList_step fun K hK => ?_
  rw [if_pos hw]
  unfold Oper.wp
  rw [hr]
  exact hK _ _ (k v w' hp)

theorem run_convert_op {x : Operand} {src dst : TypeId} {v u : Value} {w' : World} (hop : o.op = Op.convert src dst x) (hx : a.eval x = v) (hr : (convert src dst v).run P w = .ok u w') : (execOp a.eval o).run P w = .ok (.value u) w' := by
  simp only [execOp, hop, hx, Sem.run_bind, hr, Result.andThen_ok, Sem.run_pure]
/-- '[]rune(s)' -/
theorem wpList_runes (hw : Region.wanted o (yielded ops a.tmps) = true) (x : Operand) (src dst e : TypeId) (hop : o.op = Op.convert src dst x)
    (hs : P.underlying src = some .string) (hd : P.underlying dst = some (.slice e)) (he : P.underlying e = some (.int .i32)) (s : ByteArray) (hx : a.eval x = .string s) (hsz : s.size ≤ 100000)
    (k : ∀ A n cap w' rs, Below w.heap.size w w' → IsR w' A n cap rs → n ≤ 100000 → rs.any oddR = s.data.toList.any oddB → wpList P ops Q rest (a.put o.dst (.slice A n cap)) w') : wpList P ops Q (o :: rest) a w := by
  obtain ⟨rs, h1, h2, h3, h4⟩ := runes_odd s s.size 0 #[] (by omega)
  have h1' : (Conv.runesFrom s s.size 0 #[]).toList = rs.map (Value.int .i32) := by simpa using h1
  have hl : (Conv.runesFrom s s.size 0 #[]).size = rs.length := by rw [← Array.length_toList, h1', List.length_map]
  have hrun := run_runes_of_string (P := P) w src dst e s hs hd he (by omega)
  have hrun' := run_convert_op hop hx hrun
  refine wpList_run (Φ := fun v w' => ∃ A n cap, v = .slice A n cap ∧ Below w.heap.size w w' ∧ IsR w' A n cap rs ∧ n ≤ 100000) hw ⟨_, _, hrun', _, _, _, rfl, ?_, ⟨⟨?_, ?_, ?_, fun _ => ⟨_, 0, rfl, ?_, ?_⟩⟩, h2⟩, by omega⟩ ?_
  · exact ((Below.refl _ _).drew).alloc (Nat.le_refl _) _
  · simpa using hl.symm
  · exact grownCap_ge _ _ _ _
  · exact grownCap_le_maxLen _ _ _ _ (by simp only [maxLen]; omega)
  · simp
  · intro j u hu
    have hj : j < rs.length := by
      have := (List.getElem?_eq_some_iff.1 hu).1
      simpa using this
    have hc : ∀ (C : Array Value), C[j]? = some u → (w.drew.alloc (.cells C e)).cell? ⟨w.heap.size, j, none⟩ = some u := fun C hC => by
      have := World.cell?_alloc_mark w.drew C e (0, 0) j
      exact this.trans hC
    rw [Nat.zero_add]
    apply hc
    rw [Array.getElem?_append_left (by omega), ← Array.getElem?_toList, h1', hu]
  · rintro v w' ⟨A, n, cap, rfl, hb, hi, hn⟩
    exact k A n cap w' rs hb hi hn (by simpa using h4)

theorem run_append_of_nil (base : Nat) (t ty e : TypeId) (i : TypeInfo) (size : Nat) (ht : P.underlying t = some (.slice e)) (hi : P.info? e = some i)
    (v : Value) (n : Nat) (xs : List Value) (hown : w.ownsRow base e size v n xs) (c : Nat) : (Builtin.append_ #[t, t] ty #[v, .slice none 0 c]).run P w = .ok v w := by
  rcases hown.2 with ⟨rfl, rfl⟩ | ⟨g, cap, cur, rfl, _, _, hnc, _⟩
  · simp [Builtin.append_, run_underlying ht, sizeOf, typeInfo, hi, Builtin.lenOf, Builtin.firstCells]
  · simp [Builtin.append_, run_underlying ht, sizeOf, typeInfo, hi, Builtin.lenOf, Builtin.firstCells, hnc, storeCells]

theorem run_append_sl (base : Nat) (t ty e : TypeId) (i : TypeInfo) (z : Value) (size bytes : Nat) (ht : P.underlying t = some (.slice e)) (hi : P.info? e = some i) (hz : i.zero = some z)
    (hsize : i.size = size) (hby : i.bytes = bytes) (hzs : z.cells.size = size) (hsz : 0 < size)
    (v : Value) (n : Nat) (xs : List Value) (hown : w.ownsRow base e size v n xs)
    (A : Option Addr) (m c : Nat) (news : List Value) (hr : Sl w size A m c news) (h1 : ∀ u ∈ news, u.oneCell' = true)
    (h63 : n + m ≤ maxLen) (hbytes : (n + m) * bytes ≤ 140737488355328) (hbase : base ≤ w.heap.size) :
    ∃ v' w', (Builtin.append_ #[t, t] ty #[v, .slice A m c]).run P w = .ok v' w' ∧ w'.ownsRow base e size v' (n + m) (xs ++ news) ∧ w.grownBy w' v.ownBlock ∧
      (v'.ownBlock = v.ownBlock ∨ v'.ownBlock = some w.heap.size) := by
  rcases A with _ | ad
  · have hm : m = 0 := by
      rcases Nat.eq_zero_or_pos m with h0 | h0
      · exact h0
      · obtain ⟨b, off, h, _⟩ := hr.cells h0
        cases h
    subst hm
    have hn : news = [] := List.eq_nil_of_length_eq_zero (by simpa using hr.len)
    subst hn
    exact ⟨v, w, run_append_of_nil base t ty e i size ht hi v n xs hown c, by simpa using hown, World.grownBy.refl w _, .inl rfl⟩
  · have hcells : ∀ j u, news[j]? = some u → w.cell? (ad.add j) = some u := by
      intro j u hu
      rcases Nat.eq_zero_or_pos m with h0 | h0
      · subst h0
        have hn : news = [] := List.eq_nil_of_length_eq_zero (by simpa using hr.len)
        subst hn
        simp at hu
      · obtain ⟨b, off, h, _, hc⟩ := hr.cells h0
        injection h with h
        subst h
        have hadd : (⟨b, off, none⟩ : Addr).add j = ⟨b, off + j, none⟩ := by unfold Addr.add; split <;> simp_all
        rw [hadd]
        exact hc j u hu
    obtain ⟨v', w', hrun, h2, h3, _, h5⟩ := run_append_own_at (P := P) w base t ty e i z size bytes ht hi hz hsize hby hzs hsz v n xs hown ad m c news hr.len hcells h1 h63 hbytes hbase
    exact ⟨v', w', hrun, h2, h3, h5⟩

/-- 'append(s, x...)', s a row of the call's own, x whatever reads as a list -/
theorem wpList_append_sl (hw : Region.wanted o (yielded ops a.tmps) = true) (s x : Operand) (t : TypeId) (ho : o.op = .call { callee := .builtin .append, args := #[s, x], argTypes := #[t, t] })
    (base : Nat) (e : TypeId) {z : Value} {size bytes : Nat} (ht : P.underlying t = some (.slice e)) (hinfo : (P.info? e).map (fun i => (i.zero, i.size, i.bytes)) = some (some z, size, bytes))
    (hzs : z.cells.size = size) (hsz : 0 < size) {v : Value} {n : Nat} {xs : List Value} (hs : a.eval s = v) (hown : w.ownsRow base e size v n xs)
    {A : Option Addr} {m c : Nat} {news : List Value} (hx : a.eval x = .slice A m c) (hr : Sl w size A m c news) (h1 : ∀ u ∈ news, u.oneCell' = true)
    (h63 : n + m ≤ 1000000000000) (hbyt : bytes ≤ 64) (hbase : base ≤ w.heap.size)
    (k : ∀ A' cap' w', w'.ownsRow base e size (.slice A' (n + m) cap') (n + m) (xs ++ news) → Below base w w' → w.grownBy w' v.ownBlock → ((Value.slice A' (n + m) cap').ownBlock = v.ownBlock ∨ (Value.slice A' (n + m) cap').ownBlock = some w.heap.size) → wpList P ops Q rest (a.put o.dst (.slice A' (n + m) cap')) w') :
    wpList P ops Q (o :: rest) a w := by
  obtain ⟨i, hi, hz, hsize, hby⟩ := info_parts hinfo
  obtain ⟨v', w', hrun, h2, h3, h4⟩ := run_append_sl (P := P) base t o.type e i z size bytes ht hi hz hsize hby hzs hsz v n xs hown A m c news hr h1 (by simp only [maxLen]; omega)
    (by have : (n + m) * bytes ≤ 1000000000000 * 64 := Nat.mul_le_mul h63 hbyt; omega) hbase
  have hlt := hown.lt
  refine wpList_run (Φ := fun v' w' => w'.ownsRow base e size v' (n + m) (xs ++ news) ∧ w.grownBy w' v.ownBlock ∧ (v'.ownBlock = v.ownBlock ∨ v'.ownBlock = some w.heap.size)) hw ⟨v', w', ?_, h2, h3, h4⟩ ?_
  · simp only [execOp, ho, resolve, invoke, builtin, Sem.run_bind, Sem.run_pure, Result.andThen_ok, List.map_toArray, List.map_cons, List.map_nil, hs, hx, hrun]
  · rintro v2 w2 ⟨g1, g2, g3⟩
    obtain ⟨A', cap', rfl, _⟩ := Sl.of_own g1 hsz
    exact k A' cap' w2 g1 ((Below.refl base w).grown g2 hbase (fun q hq => (hlt q hq).1)) g2 g3
end
theorem Sl.own {w : World} {base size n cap : Nat} {e : TypeId} {A : Option Addr} {xs : List Value} (h : w.ownsRow base e size (.slice A n cap) n xs) (hs : 0 < size) : Sl w size A n cap xs := by
  obtain ⟨A', cap', he, h⟩ := Sl.of_own h hs
  injection he with h1 h2 h3
  subst h1
  subst h3
  exact h
/-- a slice literal that has just been made -/
theorem Sl.lit (w : World) (g : Nat) (cs : List Value) (t : TypeId) (size n : Nat) (hg : w.heap.size = g) (hl : cs.length = n * size) (hn : n ≤ maxLen) : Sl (w.alloc (.cells cs.toArray t)) size (some ⟨g, 0, none⟩) n n cs :=
  ⟨hl, Nat.le_refl _, hn, fun _ => ⟨_, 0, rfl, by simp [hg], fun j u hu => by
    rw [Nat.zero_add, ← hg]
    exact (World.cell?_alloc_mark w cs.toArray t (0, 0) j).trans (by simpa using hu)⟩⟩
theorem one1 {u : Value} (h : u.oneCell' = true) : ∀ x ∈ [u], x.oneCell' = true := by simpa using h
theorem own_below {w w' : World} {base : Nat} {e : TypeId} {size : Nat} {v : Value} {n : Nat} {xs : List Value} (h : w.ownsRow base e size v n xs) (hb : Below w.heap.size w w') : w'.ownsRow base e size v n xs := by
  refine ⟨h.1, ?_⟩
  rcases h.2 with h2 | ⟨g, cap, cur, hv, hg, hh, r⟩
  · exact Or.inl h2
  · exact Or.inr ⟨g, cap, cur, hv, hg, by rw [hb.block g (Array.getElem?_eq_some_iff.1 hh).1]; exact hh, r⟩
theorem oneC (cs : List C) : ∀ u ∈ flatC cs, u.oneCell' = true := by
  intro u hu
  obtain ⟨c, _, h⟩ := List.mem_flatMap.1 hu
  simp [C.flat] at h
  rcases h with rfl | rfl | rfl <;> rfl
theorem oneI (k : IntKind) (ns : List Int) : ∀ u ∈ ns.map (Value.int k), u.oneCell' = true := by
  intro u hu
  obtain ⟨c, _, rfl⟩ := List.mem_map.1 hu
  rfl
end Go.Proofs.Ytdeaeiolehglaaa
