/- Texts of this proof that belong together: words of memory, plain laws, walks. -/
import Derived.ChangeArms
import Derived.OpenShut
import Derived.Test.YtgipiplklaeplaaDoorRows
import Derived.Test.YtgipiplklaeplaaDoorB01
import Derived.Test.YtgipiplklaeplaaDoorB02
set_option linter.unusedVariables false
set_option linter.unusedSimpArgs false
namespace Go.Proofs.YtgipiplklaeplaaDoor
open Go.RowKit
structure In.wf (i : In) : Prop where
 op : i64 i.op
 x : i64 i.x
 a : i64 i.a
 n : i64 i.n
 name : i.name.size ≤ maxLen
@[reducible] def In.flat (i : In) : List Value := [.int .i64 i.op, .int .i64 i.x, .int .i64 i.a, .string i.name, .int .i64 i.n, .bool i.neg]
def In.val (i : In) : Value := .agg #[.int .i64 i.op, .int .i64 i.x, .int .i64 i.a, .string i.name, .int .i64 i.n, .bool i.neg]
def RIn : World → In → List Value → Prop := fun _ i v => v = i.flat ∧ i.wf
theorem keepsIn : Keeps RIn := fun _ _ _ _ h _ => h
theorem oneIn (i : In) : ∀ u ∈ i.flat, u.oneCell' = true := by
 intro u hu
 simp [In.flat] at hu
 rcases hu with rfl | rfl | rfl | rfl | rfl | rfl <;> rfl
abbrev IsK (w : World) (A : Option Addr) (n cap : Nat) (l : List In) : Prop := IsG RIn 6 w A n cap l
theorem IsK.at' {w : World} {A : Option Addr} {n cap : Nat} {l : List In} (h : IsK w A n cap l) {k : Nat} {i : In} (hk : l[k]? = some i) :
  ∃ b off, A = some ⟨b, off, none⟩ ∧ b < w.heap.size ∧ i.wf ∧ w.cell? ⟨b, off + k * 6, none⟩ = some (.int .i64 i.op) ∧ w.cell? ⟨b, off + k * 6 + 1, none⟩ = some (.int .i64 i.x) ∧ w.cell? ⟨b, off + k * 6 + 2, none⟩ = some (.int .i64 i.a) ∧
   w.cell? ⟨b, off + k * 6 + 3, none⟩ = some (.string i.name) ∧ w.cell? ⟨b, off + k * 6 + 4, none⟩ = some (.int .i64 i.n) ∧ w.cell? ⟨b, off + k * 6 + 5, none⟩ = some (.bool i.neg) := by
 obtain ⟨b, off, v, hA, hb, _, ⟨rfl, hw⟩, hc⟩ := h.at_ hk
 exact ⟨b, off, hA, hb, hw, hc 0 _ rfl, hc 1 _ rfl, hc 2 _ rfl, hc 3 _ rfl, hc 4 _ rfl, hc 5 _ rfl⟩
def RLit : World → Bool × List C → List Value → Prop := fun w p v => ∃ A n c, v = [.bool p.1, .slice A n c] ∧ IsC w A n c p.2
theorem keepsLit : Keeps RLit := fun _ _ _ _ ⟨A, n, c, h1, h2⟩ hb => ⟨A, n, c, h1, h2.below hb⟩
abbrev IsLs (w : World) (A : Option Addr) (n cap : Nat) (l : List (Bool × List C)) : Prop := IsG RLit 2 w A n cap l
structure St.fit (s : St) (N : Nat) : Prop where
 code : s.code.length ≤ N
 next : s.next ≤ N
 vars : s.vars.length ≤ N
 same : s.regs.length = s.vars.length
 wf : ∀ i ∈ s.code, i.wf
 rg : ∀ r ∈ s.regs, 0 ≤ r ∧ r ≤ (N : Int)
 vr : ∀ v ∈ s.vars, i64 v
theorem i64_0 : i64 0 := ⟨by decide, by decide⟩
theorem empty_size : (⟨#[]⟩ : ByteArray).size ≤ maxLen := by decide
theorem wfI {op x a n : Int} {nm : ByteArray} {neg : Bool} (h1 : i64 op) (h2 : i64 x) (h3 : i64 a) (h4 : i64 n) (h5 : nm.size ≤ maxLen) : (⟨op, x, a, nm, n, neg⟩ : In).wf := ⟨h1, h2, h3, h4, h5⟩
structure St.room (s : St) (k : Nat) : Prop where
 code : s.code.length + k ≤ 100000
 next : s.next + k ≤ 100000
 vars : s.vars.length + k ≤ 100000
theorem St.room.le {s : St} {k j : Nat} (h : s.room k) (hj : j ≤ k) : s.room j := ⟨by have := h.code; omega, by have := h.next; omega, by have := h.vars; omega⟩
theorem room_emit {s : St} {k : Nat} (i : In) (h : s.room (k + 1)) : (s.emit i).room k := ⟨by have := h.code; simp [St.emit]; omega, by have := h.next; simp [St.emit]; omega, by have := h.vars; simp [St.emit]; omega⟩
theorem room_bump {s : St} {k : Nat} (h : s.room (k + 1)) : s.bump.room k := ⟨by have := h.code; simp [St.bump]; omega, by have := h.next; simp [St.bump]; omega, by have := h.vars; simp [St.bump]; omega⟩
theorem regF_two (s : St) (v : Int) : regF s v = (s.bump.addv v s.next, (s.next : Int), true) ∨ ∃ r, r ∈ s.regs ∧ regF s v = (s, r, false) := by
 unfold regF
 split
 ·rename_i r hr _
  exact .inr ⟨r, List.mem_of_getElem? hr, rfl⟩
 ·exact .inl rfl
theorem regF_code (s : St) (v : Int) : (regF s v).1.code = s.code := by
 rcases regF_two s v with h | ⟨r, _, h⟩ <;> rw [h] <;> rfl
theorem room_reg {s : St} {k : Nat} (v : Int) (i : In) (h : s.room (k + 1)) : ((regF s v).1.emit i).room k := by
 have h1 := h.code
 have h2 := h.next
 have h3 := h.vars
 rcases regF_two s v with e | ⟨r, _, e⟩ <;> rw [e]
 ·exact ⟨by simp [St.emit, St.addv, St.bump]; omega, by simp [St.emit, St.addv, St.bump]; omega, by simp [St.emit, St.addv, St.bump]; omega⟩
 ·exact ⟨by simp [St.emit]; omega, by simp [St.emit]; omega, by simp [St.emit]; omega⟩
theorem room_fresh {s : St} {k : Nat} (i : In) (h : s.room (k + 1)) : (s.emit i).bump.room k :=
 ⟨by have := h.code; simp [St.emit, St.bump]; omega, by have := h.next; simp [St.emit, St.bump]; omega, by have := h.vars; simp [St.emit, St.bump]; omega⟩
theorem room_one {s : St} {k : Nat} (a b c : Int) (T : Tm) (h : s.room (k + 1)) : (oneF a b c s T).room k := by
 cases T with
 | v n => exact room_reg n _ h
 | i n => exact room_emit _ h
 | f s us => exact h.le (by omega)
theorem oneF_code (a b c : Int) (s : St) (T : Tm) : s.code.length ≤ (oneF a b c s T).code.length := by
 cases T with
 | v n => simp [oneF, St.emit, regF_code]
 | i n => simp [oneF, St.emit]
 | f s us => exact Nat.le_refl _
theorem i64_small {n : Int} (h1 : -3000000000 ≤ n) (h2 : n ≤ 3000000000) : i64 n := ⟨by omega, by omega⟩
theorem i64_nat {n : Nat} (h2 : n ≤ 3000000000) : i64 (n : Int) := ⟨by omega, by omega⟩
theorem regF_reg {s : St} {N : Nat} (h : s.fit N) (v : Int) (hN : N ≤ 100000) : 0 ≤ (regF s v).2.1 ∧ (regF s v).2.1 ≤ 100000 := by
 rcases regF_two s v with e | ⟨r, hr, e⟩ <;> rw [e]
 ·have := h.next; exact ⟨by simp, by simp; omega⟩
 ·have := h.rg r hr; exact ⟨this.1, by simp; omega⟩
theorem c0_wf {T : Tm} (h : T.ok = true) : T.c0.wf := by
 cases T with
 | v n => simp [Tm.ok] at h; exact ⟨i64_small (n := 1) (by decide) (by decide), i64_small (n := n) (by omega) (by omega), empty_size⟩
 | i n => simp [Tm.ok] at h; exact ⟨i64_small (n := 2) (by decide) (by decide), i64_small (n := n) (by omega) (by omega), empty_size⟩
 | f s us =>
  simp [Tm.ok, okName] at h
  exact ⟨i64_small (n := 3) (by decide) (by decide), i64_nat (n := us.length) (by omega), by simp [Tm.c0, maxLen]; omega⟩
end Go.Proofs.YtgipiplklaeplaaDoor
namespace Go.Proofs.YtgipiplklaeplaaDoor
open Go.RowKit Go.ChangeShapes Go.WideShapes Go.Deep Go.Joins
section
variable {H : Type} {enc : TypeId × Value → H} {w : World} {base : Nat} {spare : Nat → Bool} {held : Bool}
theorem open_row {t e : TypeId} (ht : Tryd.prog.underlying t = some (.slice e)) {k : Nat} (hke : Tryd.prog.cellsOf e = k) (hp : 0 < k) {fuel : Nat} {v : Value} {x : DataW H × List MemPlace} (h : DataW.trod enc Tryd.prog w base spare held fuel t [v] = some x) :
  ∃ (A : Option Addr) (n cap : Nat) (vs : List (List Value)), v = .slice A n cap ∧ vs.length = n ∧ (∀ u ∈ vs, u.length = k) ∧ Sl w k A n cap vs.flatten ∧ ∀ (i : Nat) (u : List Value), vs[i]? = some u → ∃ (n' : Nat) (z : DataW H × List MemPlace), DataW.trod enc Tryd.prog w base spare held n' e u = some z := by
 rcases open_slice ht h with ⟨hcs, _⟩ | ⟨a, len, cap, m, n, D, Pl, hcs, _, hl, hm, hmm, _, hel⟩
 ·simp at hcs
  exact ⟨none, 0, 0, [], hcs, rfl, by simp, ⟨by simp, Nat.le_refl _, by simp [maxLen], fun h => absurd h (by omega)⟩, by simp⟩
 ·simp at hcs
  subst hcs
  have hlm : len ≤ m := by rw [hmm]; split <;> omega
  have key : ∀ i, i < len → ∃ u : List Value, u.length = k ∧ (∀ j c, u[j]? = some c → w.cell? ((a.add (i * k)).add j) = some c) ∧ ∃ (n' : Nat) (z : DataW H × List MemPlace), DataW.trod enc Tryd.prog w base spare held n' e u = some z := by
   intro i hi
   obtain ⟨cs', hc, ht'⟩ := hel i (by omega)
   rw [hke] at hc
   obtain ⟨_, hcl, hat⟩ := World.cells?_some hc
   refine ⟨cs', hcl, fun j c hj => ?_, _, _, ht'⟩
   have hjl : j < k := by have := (List.getElem?_eq_some_iff.1 hj).1; omega
   rw [← hj]
   exact hat j hjl
  obtain ⟨vs, hlen, hvs⟩ := build_list _ len key
  have hk : ∀ u ∈ vs, u.length = k := fun u hu => by
   obtain ⟨i, hi, rfl⟩ := List.getElem_of_mem hu
   exact (hvs i _ (List.getElem?_eq_getElem hi)).1
  refine ⟨some a, len, cap, vs, rfl, hlen, hk, ⟨by rw [flatten_len hk, hlen], hl, hm, fun hn => ?_⟩, fun i u hu => (hvs i u hu).2.2⟩
  obtain ⟨b, off, spot⟩ := a
  obtain ⟨u0, hu0⟩ : ∃ u, vs[0]? = some u := ⟨_, List.getElem?_eq_getElem (by omega)⟩
  obtain ⟨h01, h02, _⟩ := hvs 0 u0 hu0
  obtain ⟨c0, hc0⟩ : ∃ c, u0[0]? = some c := ⟨_, List.getElem?_eq_getElem (by omega)⟩
  have h0 := h02 0 c0 hc0
  have hs : spot = none := by simpa [Addr.add] using spot_none h0
  subst hs
  refine ⟨b, off, rfl, by simpa [Addr.add] using World.block_lt_of_cell? w _ h0, fun j u hu => ?_⟩
  have hadd : ∀ o q, (⟨b, o, none⟩ : Addr).add q = ⟨b, o + q, none⟩ := fun o q => by unfold Addr.add; split <;> simp_all
  have hjl : j < vs.length * k := by
   have := (List.getElem?_eq_some_iff.1 hu).1
   rwa [flatten_len hk] at this
  have hdiv : j / k < vs.length := (Nat.div_lt_iff_lt_mul hp).2 hjl
  have hmod : j % k < k := Nat.mod_lt _ hp
  have hjk : j / k * k + j % k = j := Nat.div_add_mod' j k
  obtain ⟨vi, hvi⟩ : ∃ vi, vs[j / k]? = some vi := ⟨_, List.getElem?_eq_getElem hdiv⟩
  obtain ⟨g1, g2, _⟩ := hvs _ vi hvi
  obtain ⟨c, hc⟩ : ∃ c, vi[j % k]? = some c := ⟨_, List.getElem?_eq_getElem (by omega)⟩
  have g3 := g2 _ c hc
  have g4 := flatten_get hk hvi hc
  rw [hjk, hu] at g4
  have g4 := Option.some.inj g4
  rw [hadd, hadd, Nat.add_assoc, hjk] at g3
  rw [g3, g4]
theorem struct_get {e : TypeId} (hf : Tryd.prog.underlying e = some (.struct (Tryd.prog.fieldsOf e))) (hone : oneCellFields Tryd.prog (Tryd.prog.fieldsOf e) = true) {n k : Nat} {u : List Value} {z : DataW H × List MemPlace} (hs : (Tryd.prog.fieldsOf e).size = k) (hu : u.length = k)
  (h : DataW.trod enc Tryd.prog w base spare held n e u = some z) : ∀ (j : Nat) (t : TypeId), ((Tryd.prog.fieldsOf e)[j]?).map (·.type) = some t → ∃ n' y c, u[j]? = some c ∧ DataW.trod enc Tryd.prog w base spare held n' t [c] = some y := by
 intro j t hj
 obtain ⟨ys, n', hn', hy, hlen, hyl, hff⟩ := DataW.trod_struct hf h
 obtain ⟨f, hj', hft⟩ := Option.map_eq_some_iff.1 hj
 subst hft
 obtain ⟨ho, hk⟩ := hone_of hone j f hj'
 have hjl : j < (Tryd.prog.fieldsOf e).size := (Array.getElem?_eq_some_iff.1 hj').1
 have h1 := hff j f hj'
 rw [ho, hk] at h1
 have hone' : (u.drop j).take 1 = [u[j]'(by omega)] := by
  rw [List.drop_eq_getElem_cons (by omega)]
  rfl
 rw [hone'] at h1
 have hys : ys[j]? = some (ys[j]'(by rw [hyl]; exact hjl)) := List.getElem?_eq_getElem _
 exact ⟨_, _, _, List.getElem?_eq_getElem (by omega), h1.trans hys⟩
theorem fieldsI : Tryd.prog.underlying 88 = some (.struct (Tryd.prog.fieldsOf 88)) := by kernel_rfl
theorem fieldsL : Tryd.prog.underlying 36 = some (.struct (Tryd.prog.fieldsOf 36)) := by kernel_rfl
theorem open_instrs {fuel : Nat} {v : Value} {x : DataW H × List MemPlace} (h : DataW.trod enc Tryd.prog w base spare held fuel 50 [v] = some x) : ∃ A n cap l, v = .slice A n cap ∧ IsK w A n cap l := by
 obtain ⟨A, n, cap, vs, rfl, h1, h2, h3, h4⟩ := open_row (k := 6) (e := 88) Tryd.underlying50 (by kernel_rfl) (by omega) h
 have key : ∀ i, i < n → ∃ c : In, ∃ u, vs[i]? = some u ∧ u = c.flat ∧ c.wf := by
  intro i hi
  obtain ⟨u, hu⟩ : ∃ u, vs[i]? = some u := ⟨_, List.getElem?_eq_getElem (by omega)⟩
  obtain ⟨n', z, hz⟩ := h4 i u hu
  have hl := h2 u (List.mem_of_getElem? hu)
  have get := struct_get fieldsI (by kernel_rfl) (k := 6) (by kernel_rfl) hl hz
  obtain ⟨_, _, c0, g0, t0⟩ := get 0 3 (by kernel_rfl)
  obtain ⟨_, _, c1, g1, t1⟩ := get 1 3 (by kernel_rfl)
  obtain ⟨_, _, c2, g2, t2⟩ := get 2 3 (by kernel_rfl)
  obtain ⟨_, _, c3, g3, t3⟩ := get 3 9 (by kernel_rfl)
  obtain ⟨_, _, c4, g4, t4⟩ := get 4 3 (by kernel_rfl)
  obtain ⟨_, _, c5, g5, t5⟩ := get 5 4 (by kernel_rfl)
  obtain ⟨k0, e0, _, w0⟩ := DataW.trod_int Tryd.underlying3 t0
  obtain ⟨k1, e1, _, w1⟩ := DataW.trod_int Tryd.underlying3 t1
  obtain ⟨k2, e2, _, w2⟩ := DataW.trod_int Tryd.underlying3 t2
  obtain ⟨k3, e3, _, w3⟩ := DataW.trod_string Tryd.underlying9 t3
  obtain ⟨k4, e4, _, w4⟩ := DataW.trod_int Tryd.underlying3 t4
  obtain ⟨k5, e5, _⟩ := DataW.trod_bool Tryd.underlying4 t5
  simp at e0 e1 e2 e3 e4 e5
  subst e0 e1 e2 e3 e4 e5
  refine ⟨⟨k0, k1, k2, k3, k4, k5⟩, u, hu, ?_, ⟨wf_i64 w0, wf_i64 w1, wf_i64 w2, wf_i64 w4, w3⟩⟩
  match u, hl with
  | [a0, a1, a2, a3, a4, a5], _ =>
   simp at g0 g1 g2 g3 g4 g5
   rw [g0, g1, g2, g3, g4, g5]
 obtain ⟨l, hll, hl⟩ := build_list _ n key
 exact ⟨A, n, cap, l, rfl, hll, vs, by omega, h2, h3, fun i x v hx hv => by
  obtain ⟨u, hu, hf, hw⟩ := hl i x hx
  rw [hv] at hu
  cases hu
  exact ⟨hf, hw⟩⟩
theorem open_lits {fuel : Nat} {v : Value} {x : DataW H × List MemPlace} (h : DataW.trod enc Tryd.prog w base spare held fuel 23 [v] = some x) : ∃ A n cap l, v = .slice A n cap ∧ IsLs w A n cap l := by
 obtain ⟨A, n, cap, vs, rfl, h1, h2, h3, h4⟩ := open_row (k := 2) (e := 36) Tryd.underlying23 (by kernel_rfl) (by omega) h
 have key : ∀ i, i < n → ∃ c : Bool × List C, ∃ u, vs[i]? = some u ∧ RLit w c u := by
  intro i hi
  obtain ⟨u, hu⟩ : ∃ u, vs[i]? = some u := ⟨_, List.getElem?_eq_getElem (by omega)⟩
  obtain ⟨n', z, hz⟩ := h4 i u hu
  have hl := h2 u (List.mem_of_getElem? hu)
  have get := struct_get fieldsL (by kernel_rfl) (k := 2) (by kernel_rfl) hl hz
  obtain ⟨_, _, c0, g0, t0⟩ := get 0 4 (by kernel_rfl)
  obtain ⟨_, _, c1, g1, t1⟩ := get 1 22 (by kernel_rfl)
  obtain ⟨k0, e0, _⟩ := DataW.trod_bool Tryd.underlying4 t0
  obtain ⟨A', n'', c', cs, e1, hcs⟩ := open_cells t1
  simp at e0
  subst e0 e1
  refine ⟨(k0, cs), u, hu, A', n'', c', ?_, hcs⟩
  match u, hl with
  | [a0, a1], _ =>
   simp at g0 g1
   rw [g0, g1]
 obtain ⟨l, hll, hl⟩ := build_list _ n key
 exact ⟨A, n, cap, l, rfl, hll, vs, by omega, h2, h3, fun i x v hx hv => by
  obtain ⟨u, hu, hr⟩ := hl i x hx
  rw [hv] at hu
  cases hu
  exact hr⟩
set_option maxRecDepth 100000 in
theorem open_clause {r : Reach} {b0 : Nat} {v : Value} {d : DataW H} {p : List MemPlace} (hv : Value.okWide Tryd.prog w r b0 25 v) (h : DataW.Trod enc Tryd.prog w base spare held 25 v d p) :
  ∃ A n c t B m e b, v = .agg #[.slice A n c, .slice B m e] ∧ IsC w A n c t ∧ IsLs w B m e b := by
 obtain ⟨v0, v1, y0, y1, n, rfl, _, _, h0, h1⟩ := open_agg2 Tryd.underlying25 (by kernel_rfl) (by kernel_rfl) hv h
 obtain ⟨A, n', c, t, rfl, ht⟩ := open_cells h0
 obtain ⟨B, m, e, b, rfl, hb⟩ := open_lits h1
 exact ⟨A, n', c, t, B, m, e, b, rfl, ht, hb⟩
end
end Go.Proofs.YtgipiplklaeplaaDoor
namespace Go.Proofs.YtgipiplklaeplaaDoor
open Go.RowKit Go.ChangeShapes Go.WideShapes Go.Deep Go.Joins
section
variable {H : Type} {enc : TypeId × Value → H} {w : World} {base : Nat} {spare : Nat → Bool} {held : Bool}
set_option maxRecDepth 100000 in
theorem open_pair {k : IntKind} {e t : TypeId} (ht : Tryd.prog.underlying t = some (.array 2 e)) (he : Tryd.prog.underlying e = some (.int k)) (hc : Tryd.prog.cellsOf e = 1) (hct : Tryd.prog.cellsOf t = 2) {r : Reach} {b0 : Nat} {v : Value} {d : DataW H} {p : List MemPlace} (hv : Value.okWide Tryd.prog w r b0 t v) (h : DataW.Trod enc Tryd.prog w base spare held t v d p) :
  ∃ x y, v = .agg #[.int k x, .int k y] ∧ (Lit.int k x).wf = true ∧ (Lit.int k y).wf = true := by
 simp only [Value.okWide, ht] at hv
 obtain ⟨cs, rfl, hsz, _⟩ := hv
 obtain ⟨fuel, hf⟩ := h
 obtain ⟨xs, m, _, _, hlen, hl, hel⟩ := DataW.trod_array ht hf
 have hs2 : cs.size = 2 := by rw [hsz, hct]
 obtain ⟨v0, v1, rfl⟩ := array2 hs2
 have h0 := hel 0 (by omega)
 have h1 := hel 1 (by omega)
 rw [hc, List.getElem?_eq_getElem (by omega)] at h0 h1
 simp only [Value.cells] at h0 h1
 obtain ⟨x, e0, _, w0⟩ := DataW.trod_int he h0
 obtain ⟨y, e1, _, w1⟩ := DataW.trod_int he h1
 simp at e0 e1
 subst e0 e1
 exact ⟨x, y, rfl, w0, w1⟩
end
end Go.Proofs.YtgipiplklaeplaaDoor
