/- Texts of this proof that belong together: words of memory, plain laws, walks. -/
import Derived.Deep.RegionHeld3
import Derived.Deep.RegionLaw
import Derived.Maps.OwnOps
import Derived.Maps.OwnSet
import Derived.Test.YtgipiplklaeplaaDoorRows
import Derived.Test.YtgipiplklaeplaaDoorB01
import Derived.Test.YtgipiplklaeplaaDoorB03
import Derived.Test.YtgipiplklaeplaaDoorB04
set_option linter.unusedVariables false
set_option linter.unusedSimpArgs false
namespace Go.Proofs.YtgipiplklaeplaaDoor
open Go.RowKit Go.Maps
def look (l : List (Int × Value)) (k : Int) : Option Value := match l with
 | [] => none
 | p :: r => if p.1 = k then some p.2 else look r k
def putMA (l : List (Int × Value)) (k : Int) (v : Value) : List (Int × Value) := match l with
 | [] => [(k, v)]
 | p :: r => if p.1 = k then (k, v) :: r else p :: putMA r k v
theorem look_putA (l : List (Int × Value)) (k j : Int) (v : Value) : look (putMA l k v) j = if k = j then some v else look l j := by
 induction l with
 | nil => rfl
 | cons p r ih =>
  simp only [putMA]
  split
  ·rename_i h
   simp only [look]
   by_cases hj : k = j
   ·rw [if_pos hj, if_pos hj]
   ·rw [if_neg hj, if_neg hj, if_neg (by rw [h]; exact hj)]
  ·rename_i h
   simp only [look]
   by_cases hp : p.1 = j
   ·rw [if_pos hp, if_pos hp, if_neg (by rintro rfl; exact h hp)]
   ·rw [if_neg hp, if_neg hp, ih]
theorem length_putA (l : List (Int × Value)) (k : Int) (v : Value) : (putMA l k v).length = if (look l k).isSome then l.length else l.length + 1 := by
 induction l with
 | nil => rfl
 | cons p r ih =>
  simp only [putMA, look]
  split
  ·rfl
  ·rw [List.length_cons, ih]; split <;> simp
theorem putA_new {l : List (Int × Value)} {k : Int} {v : Value} (h : look l k = none) : putMA l k v = l ++ [(k, v)] := by
 induction l with
 | nil => rfl
 | cons p r ih =>
  simp only [look] at h
  split at h
  ·cases h
  ·rename_i hp
   simp only [putMA, if_neg hp, ih h, List.cons_append]
def rawRM : Value → Option (DataW Value × List MemPlace) := fun v => some (.held v, [])
structure MapI (P : Program) (K : TypeId) (w : World) (b : Nat) (l : List (Int × Value)) : Prop where
 has : ∃ D : DataW Value, w.ownsMap P K rawRM b l.length D ∧ Maps.size D = l.length ∧ (∀ k, i64 k → Maps.has D (.int .i64 k) = (look l k).isSome) ∧ ∀ k z, i64 k → D.atKey (.int .i64 k) (.held z) = .held ((look l k).getD z)
section
variable {P : Program} {K : TypeId} {w w' : World} {b : Nat} {l : List (Int × Value)}
theorem MapI.made (w : World) (P : Program) (K : TypeId) : MapI P K (w.alloc (.map #[] 0)) w.heap.size [] :=
 ⟨.map [], World.ownsMap_made w P K rawRM, rfl, fun _ _ => rfl, fun _ _ _ => rfl⟩
theorem MapI.lt (h : MapI P K w b l) : b < w.heap.size := by
 obtain ⟨D, h1, _⟩ := h.has
 exact h1.lt
theorem MapI.block (h : MapI P K w b l) (hb : w'.heap[b]? = w.heap[b]?) : MapI P K w' b l := by
 obtain ⟨D, ⟨es, clock, h1, h2⟩, h3⟩ := h.has
 exact ⟨D, ⟨es, clock, hb.trans h1, h2⟩, h3⟩
theorem MapI.below (h : MapI P K w b l) (hb : Below w.heap.size w w') : MapI P K w' b l := h.block (hb.block b h.lt)
theorem MapI.isMap (h : MapI P K w b l) : ∃ es clock, w.heap[b]? = some (.map es clock) := by
 obtain ⟨D, ⟨es, clock, h1, h2⟩, h3⟩ := h.has
 exact ⟨es, clock, h1⟩
theorem i64_wfM {k : Int} (h : i64 k) : (Lit.int .i64 k).wf = true := by
 unfold i64 at h
 simp [Lit.wf, IntKind.min, IntKind.max, IntKind.signed, IntKind.bits]
 omega
theorem own_sizeM {R : Value → Option (DataW Value × List MemPlace)} {n : Nat} {D : DataW Value} (h : w.ownsMap P K R b n D) : w.ownsMap P K R b (Maps.size D) D := by
 obtain ⟨es, clock, h1, F, h2, rfl⟩ := h
 exact ⟨es, clock, h1, F, by simp [Maps.size, length_sorted], rfl⟩
variable {ops : Array Oper} {rest : List Oper} {o : Oper} {a : Act} {Q : Exit → Act → World → Prop}
theorem wpList_map_ok (hg : o.guard = none) (m x : Operand) (t : TypeId) (hop : o.op = Op.lookup t m x true) (e : TypeId) (hk : P.underlying K = some (.int .i64)) (ht : P.underlying t = some (.map K e))
  {z : Value} (hz : (zeroValue e).run P w = .ok z w) (hm : a.eval m = .map (some b)) (h : MapI P K w b l) {k : Int} (hx : a.eval x = .int .i64 k) (hw : i64 k)
  (hK : wpList P ops Q rest (a.put o.dst (.tuple #[(look l k).getD z, .bool (look l k).isSome])) w) : wpList P ops Q (o :: rest) a w := by
 obtain ⟨D, h1, h2, h3, h4⟩ := h.has
 refine wpList_lookup_own_ok w hg m x t hop K e (int_keyed hk) ht rawRM hz (.held z) [] rfl b _ D hm h1 _ _ hx (keyOf_int_mk hk (i64_wfM hw)) fun v ps hv => ?_
 simp only [rawRM, Option.some.injEq, Prod.mk.injEq] at hv
 have hv1 := hv.1
 rw [h4 k z hw] at hv1
 injection hv1 with hv1
 rw [hv1, h3 k hw]
 exact hK
theorem wpList_map_get (hg : o.guard = none) (m x : Operand) (t : TypeId) (hop : o.op = Op.lookup t m x false) (e : TypeId) (hk : P.underlying K = some (.int .i64)) (ht : P.underlying t = some (.map K e))
  {z : Value} (hz : (zeroValue e).run P w = .ok z w) (hm : a.eval m = .map (some b)) (h : MapI P K w b l) {k : Int} (hx : a.eval x = .int .i64 k) (hw : i64 k)
  (hK : wpList P ops Q rest (a.put o.dst ((look l k).getD z)) w) : wpList P ops Q (o :: rest) a w := by
 refine wpList_plain hg fun K' hK' => ?_
 obtain ⟨D, h1, h2, h3, h4⟩ := h.has
 obtain ⟨v, ps, hrun, hv⟩ := h1.lookup (int_keyed hk) ht hz (zd := .held z) (zp := []) rfl (keyOf_int_mk hk (i64_wfM hw))
 simp only [rawRM, Option.some.injEq, Prod.mk.injEq] at hv
 have hv1 := hv.1
 rw [h4 k z hw] at hv1
 injection hv1 with hv1
 subst hv1
 unfold Oper.wp
 simp [execOp, hop, hm, hx, hrun, Result.andThen]
 exact hK' _ _ hK
theorem run_map_put {t : TypeId} (e : TypeId) (hk : P.underlying K = some (.int .i64)) (ht : P.underlying t = some (.map K e))
  (h : MapI P K w b l) (hn : l.length < 1000000000) {k : Int} (v : Value) (hw : i64 k) : ∃ w', (Instr.mapUpdate t (.map (some b)) (.int .i64 k) v).run P w = .ok () w' ∧ MapI P K w' b (putMA l k v) ∧ w.grownBy w' (some b) := by
 obtain ⟨D, h1, h2, h3, h4⟩ := h.has
 obtain ⟨w', hrun, hown, hgr⟩ := h1.update (int_keyed hk) ht (by unfold maxLen; omega) (keyOf_int_mk hk (i64_wfM hw)) (d := .held v) (ps := []) (val := v) rfl
 refine ⟨w', hrun, ⟨⟨D.put (.int .i64 k) (.held v), ?_, ?_, ?_, ?_⟩⟩, hgr⟩
 ·have := own_sizeM hown
  rwa [size_put (h1.tidy (int_keyed hk)), h3 k hw, h2, ← length_putA l k v] at this
 ·rw [size_put (h1.tidy (int_keyed hk)), h3 k hw, h2, ← length_putA l k v]
 ·intro j hj
  rw [look_putA]
  by_cases hjk : k = j
  ·subst hjk
   rw [has_put_same (k := .int .i64 k) h1.isMap trivial, if_pos rfl]; rfl
  ·rw [has_put_other (by intro he; injection he with _ he; exact hjk he.symm), if_neg hjk, h3 j hj]
 ·intro j z hj
  rw [look_putA]
  by_cases hjk : k = j
  ·subst hjk
   rw [atKey_put_same (k := .int .i64 k) h1.isMap trivial, if_pos rfl]; rfl
  ·rw [atKey_put_other (by intro he; injection he with _ he; exact hjk he.symm), if_neg hjk, h4 j z hj]
theorem wpList_map_put (hg : o.guard = none) (m x y : Operand) (t : TypeId) (hop : o.op = Op.mapUpdate t m x y) (e : TypeId) (hk : P.underlying K = some (.int .i64)) (ht : P.underlying t = some (.map K e))
  (hm : a.eval m = .map (some b)) (h : MapI P K w b l) (hn : l.length < 1000000000) {k : Int} {v : Value} (hx : a.eval x = .int .i64 k) (hy : a.eval y = v) (hw : i64 k)
  (hK : ∀ w', MapI P K w' b (putMA l k v) → w.grownBy w' (some b) → wpList P ops Q rest (a.put o.dst undef) w') : wpList P ops Q (o :: rest) a w := by
 refine wpList_plain hg fun K' hK' => ?_
 obtain ⟨w', hrun, r1, r2⟩ := run_map_put e hk ht h hn v hw
 unfold Oper.wp
 simp [execOp, hop, hm, hx, hy, hrun, Result.andThen]
 exact hK' _ _ (hK w' r1 r2)
end
end Go.Proofs.YtgipiplklaeplaaDoor
namespace Go.Proofs.YtgipiplklaeplaaDoor
open Go.RowKit
theorem infoIn : (Tryd.prog.info? 88).map (fun i => (i.zero, i.size, i.bytes)) = some (some (.agg #[.int .i64 0, .int .i64 0, .int .i64 0, .string ⟨#[]⟩, .int .i64 0, .bool false]), 6, 56) := by kernel_rfl
theorem reg_find (v : Int) : ∀ (vars regs : List Int) (k : Nat), regs.length = vars.length →
  (look (List.zipWith (fun v r => (v, Value.int .i64 r)) vars regs) v = none ∧ idxF (fun y => y == v) k vars = -1) ∨
  ∃ (j : Nat) (r : Int), idxF (fun y => y == v) k vars = (k : Int) + j ∧ regs[j]? = some r ∧ look (List.zipWith (fun v r => (v, Value.int .i64 r)) vars regs) v = some (.int .i64 r)
 | [], [], k, _ => .inl ⟨rfl, rfl⟩
 | x :: vars, [], k, h => by simp at h
 | [], r :: regs, k, h => by simp at h
 | x :: vars, r :: regs, k, h => by
  by_cases hx : x = v
  ·subst hx
   exact .inr ⟨0, r, by simp [idxF], rfl, by simp [look]⟩
  ·rcases reg_find v vars regs (k + 1) (by simpa using h) with ⟨h1, h2⟩ | ⟨j, r', h1, h2, h3⟩
   ·exact .inl ⟨by simp [look, hx, h1], by simp [idxF, hx, h2]⟩
   ·exact .inr ⟨j + 1, r', by simp [idxF, hx, h1]; omega, by simpa using h2, by simp [look, hx, h3]⟩
def prs (s : St) : List (Int × Value) := List.zipWith (fun v r => (v, Value.int .i64 r)) s.vars s.regs
theorem reg_cases (s : St) (v : Int) (h : s.regs.length = s.vars.length) :
  (look (prs s) v = none ∧ regF s v = (s.bump.addv v s.next, (s.next : Int), true)) ∨
  ∃ r, r ∈ s.regs ∧ look (prs s) v = some (.int .i64 r) ∧ regF s v = (s, r, false) := by
 rcases reg_find v s.vars s.regs 0 h with ⟨h1, h2⟩ | ⟨j, r, h1, h2, h3⟩
 ·refine .inl ⟨h1, ?_⟩
  have h0 : decide (0 ≤ placeI s.vars v) = false := by rw [placeI, h2]; rfl
  unfold regF
  rw [h0]
  cases s.regs[(placeI s.vars v).toNat]? <;> rfl
 ·refine .inr ⟨r, List.mem_of_getElem? h2, h3, ?_⟩
  have h0 : placeI s.vars v = j := by rw [placeI, h1]; omega
  unfold regF
  rw [h0]
  simp [h2]
structure Mk (w : World) (base bm bq : Nat) (s : St) : Prop where
 has : ∃ A n cap, base ≤ bm ∧ base ≤ bq ∧ w.heap[bm]? = some (.cells #[.slice A n cap, .int .i64 s.next, .map (some bq)] 145 (0, 0)) ∧ OwnG RIn 6 w base 88 (.slice A n cap) n s.code ∧ MapI Tryd.prog 3 w bq (prs s)
 fit : s.fit 100000
def vblk : Option Value → Option Nat
 | some (Value.slice (some a) _ _) => some a.block
 | _ => none
def cblk (w : World) (bm : Nat) : Option Nat := match w.heap[bm]? with
 | some (Obj.cells cs _ _) => vblk cs[0]?
 | _ => none
structure Free (w : World) (bm bq g : Nat) : Prop where
 lt : g < w.heap.size
 m : g ≠ bm
 q : g ≠ bq
 c : cblk w bm ≠ some g
structure Kept (w w' : World) (bm bq : Nat) : Prop where
 free : ∀ g, Free w bm bq g → w'.heap[g]? = w.heap[g]? ∧ Free w' bm bq g
theorem Kept.trans {w w' w'' : World} {bm bq : Nat} (h : Kept w w' bm bq) (h' : Kept w' w'' bm bq) : Kept w w'' bm bq := ⟨fun g hg => by
 obtain ⟨h1, h2⟩ := h.free g hg
 obtain ⟨h3, h4⟩ := h'.free g h2
 exact ⟨h3.trans h1, h4⟩⟩
theorem Kept.refl (w : World) (bm bq : Nat) : Kept w w bm bq := ⟨fun g hg => ⟨rfl, hg⟩⟩
theorem cblk_same {w w' : World} {bm : Nat} (h : w'.heap[bm]? = w.heap[bm]?) : cblk w' bm = cblk w bm := by unfold cblk; rw [h]
theorem cblk_of {w : World} {bm : Nat} {A : Option Addr} {n cap : Nat} {x y : Value} {t : TypeId} (h : w.heap[bm]? = some (.cells #[.slice A n cap, x, y] t (0, 0))) : cblk w bm = A.map (·.block) := by
 unfold cblk
 rw [h]
 cases A <;> rfl
theorem Kept.below {w w' : World} {bm bq : Nat} (hb : Below w.heap.size w w') (hm : bm < w.heap.size) : Kept w w' bm bq := ⟨fun g hg =>
 ⟨hb.block g hg.lt, ⟨Nat.lt_of_lt_of_le hg.lt hb.size, hg.m, hg.q, by rw [cblk_same (hb.block bm hm)]; exact hg.c⟩⟩⟩
def RetMk (w : World) (base bm bq : Nat) (s : St) (e : Ending) (w' : World) : Prop := e = .returned (.tuple #[]) ∧ Mk w' base bm bq s ∧ Below base w w' ∧ Kept w w' bm bq
def RetMkV (w : World) (base bm bq : Nat) (s : St) (v : Value) (e : Ending) (w' : World) : Prop := e = .returned v ∧ Mk w' base bm bq s ∧ Below base w w' ∧ Kept w w' bm bq
theorem St.fit_emit {s : St} {N : Nat} {i : In} (h : s.fit N) (hi : i.wf) (hl : s.code.length < N) : (s.emit i).fit N :=
 ⟨by simp [St.emit]; omega, h.next, h.vars, h.same, fun x hx => by
  simp [St.emit] at hx
  rcases hx with hx | rfl
  ·exact h.wf x hx
  ·exact hi, h.rg, h.vr⟩
set_option maxRecDepth 100000 in
set_option maxHeartbeats 4000000 in
theorem mEmit_any (base bm bq : Nat) (s : St) (i : In) (w : World) (h : Mk w base bm bq s) (hi : i.wf) (hl : s.code.length < 100000) :
  Calls Tryd.prog 84 #[.pointer (some ⟨bm, 0, none⟩), i.val] w (RetMk w base bm bq (s.emit i)) := by
 obtain ⟨A, n, cap, hb1, hb2, hm, hcode, hmap⟩ := h.has
 have c0 := cells_of hm 0
 have c1 := cells_of hm 1
 have c2 := cells_of hm 2
 have hlt := block_lt hm
 simp at c0 c1 c2
 unfold In.val
 go_enter Tryd.func84, Tryd.ntmps84
 go_wp2
 obtain ⟨vs, v1, v2, hown, v4⟩ := hcode.rows
 have hn := hcode.len
 have hbw : base ≤ w.heap.size := by omega
 obtain ⟨w0, hw0⟩ : ∃ w0, w0 = w.alloc (.cells #[.int .i64 i.op, .int .i64 i.x, .int .i64 i.a, .string i.name, .int .i64 i.n, .bool i.neg] 88) := ⟨_, rfl⟩
 have hb : Below w.heap.size w w0 := by rw [hw0]; exact (Below.refl _ _).alloc (Nat.le_refl _) _
 have hs0 : w0.heap.size = w.heap.size + 1 := by rw [hw0]; simp
 have b0 : w0.heap[w.heap.size]? = some (.cells #[.int .i64 i.op, .int .i64 i.x, .int .i64 i.a, .string i.name, .int .i64 i.n, .bool i.neg] 88 (0, 0)) := by rw [hw0]; exact heap_alloc_new w _
 rw [← hw0]
 clear hw0
 have k0 := cells_of b0 0
 have k1 := cells_of b0 1
 have k2 := cells_of b0 2
 have k3 := cells_of b0 3
 have k4 := cells_of b0 4
 have k5 := cells_of b0 5
 simp at k0 k1 k2 k3 k4 k5
 have m0 := (hb.cell (p := ⟨bm, 0, none⟩) hlt).trans c0
 have hlt0 : bm < w0.heap.size := by omega
 have hmw := (hb.block bm hlt).trans hm
 have hqw := hmap.below hb
 have hownw := own_below hown hb
 have nbox : ∀ a, A = some a → a.block ≠ w.heap.size := fun a ha => by have := Own0.lt hown a ha; omega
 have nbm := own_ne hown hm (by intro cur he; simp at he)
 obtain ⟨es, clk, hq0⟩ := hmap.isMap
 have nbq := own_ne hown hq0 (by intro cur he; cases he)
 have hqlt := hmap.lt
 have nqb : bq ≠ bm := by rintro rfl; rw [hm] at hq0; cases hq0
 clear hq0
 have hne1 : ¬ w.heap.size = bm := by omega
 have hne2 : ¬ bm = w.heap.size := by omega
 go_region_law (first
   | (refine step_append_ap (xs := vs.flatten) (by rfl) (.tmp 8) (.tmp 10) 50 (by rfl) base 88 Tryd.underlying50 infoIn (by rfl) (by omega) (by rfl) (.inr (own_below hownw (by first | exact (((Below.refl _ _).alloc (Nat.le_refl _) _)).drew | exact (Below.refl _ _).drew.alloc (Nat.le_refl _) _))) (by rfl) (Sl.blk (cs := #[.int .i64 i.op, .int .i64 i.x, .int .i64 i.a, .string i.name, .int .i64 i.n, .bool i.neg]) (t := 88) (alloc_at (by first | rfl | exact hs0 | (simp; omega))) rfl (by simp [maxLen])) (oneIn i) (by omega) (by omega) (by omega) (by simp; omega) ?_; intro A1 cap1 w1 hown1 hb1' hap; (have g0 := (hap.old w.heap.size (by first | omega | (simp; omega)) nbox).trans ((alloc_past (by first | omega | (simp; omega))).trans b0)); (have gm := (hap.old bm (by first | omega | (simp; omega)) nbm).trans ((alloc_past (by first | omega | (simp; omega))).trans hmw)); (have gq := (hap.old bq (by first | omega | (simp; omega)) nbq).trans (alloc_past (by first | omega | (simp; omega)))); (have q0 := cells_of g0 0); (have q1 := cells_of g0 1); (have q2 := cells_of g0 2); (have q3 := cells_of g0 3); (have q4 := cells_of g0 4); (have q5 := cells_of g0 5); (have qm := cells_of gm 0); (have qf := frozen_of gm 0); simp at q0 q1 q2 q3 q4 q5 qm)
   | fail)
 all_goals go_end0
 all_goals
  have hA1 : ∀ a, A1 = some a → a.block ≠ bm := fun a ha => by
   rcases (hap.blk a ha).2 with ⟨a0, h0, h1⟩ | h1
   ·rw [h1]; exact nbm a0 h0
   ·simp at h1; omega
  have hbq : bq ≠ bm := nqb
  refine ⟨rfl, ⟨⟨A1, n + 1, cap1, hb1, hb2, ?_, ?_, ?_⟩, St.fit_emit h.fit hi hl⟩, ?_, ?_⟩
  ·have := set_block (k := 0) gm (.slice A1 (n + 1) cap1)
   simp at this
   exact this
  ·refine OwnG.snoc (own_at hown1 fun a ha => set_other (hA1 a ha) _) hn v1 v2 rfl (fun i x v hx hv => v4 i x v hx hv) ⟨rfl, hi⟩
  ·exact (hqw.block gq).block (set_other hbq _)
  ·refine Below.setCell ?_ (by simpa using hb1) _
   refine Below.trans (Below.drew (Below.alloc (hb.mono hbw) (by omega) _)) hb1'
  ·refine ⟨fun g hg => ?_⟩
   have hgA : ∀ a, A = some a → a.block ≠ g := fun a ha he => hg.c (by
    rw [cblk_of hm, ha]
    simp [he])
   have hg0 : g < w0.heap.size := by have := hg.lt; omega
   have e1 := (hap.old g (by first | omega | (simp; omega)) hgA).trans ((alloc_past (by first | omega | (simp; omega))).trans (hb.block g hg.lt))
   refine ⟨(set_other hg.m _).trans e1, ⟨by have := hap.size; simp at this ⊢; omega, hg.m, hg.q, ?_⟩⟩
   have hm2 := set_block (k := 0) gm (.slice A1 (n + 1) cap1)
   simp at hm2
   rw [cblk_of hm2]
   intro hA
   cases hA1e : A1 with
   | none => rw [hA1e] at hA; cases hA
   | some a =>
    rw [hA1e] at hA
    injection hA with hA
    rcases (hap.blk a hA1e).2 with ⟨a0, h0, h1⟩ | h1
    ·exact hgA a0 h0 (by rw [← h1]; exact hA)
    ·have := hg.lt; simp at *; omega
theorem St.fit_bump {s : St} {N : Nat} (h : s.fit N) (hl : s.next < N) : s.bump.fit N := ⟨h.code, by simp [St.bump]; omega, h.vars, h.same, h.wf, h.rg, h.vr⟩
theorem Mk.set1 {w : World} {base bm bq : Nat} {s : St} (h : Mk w base bm bq s) (hl : s.next < 100000) : Mk (w.setCell ⟨bm, 1, none⟩ (.int .i64 (s.next + 1))) base bm bq s.bump := by
 obtain ⟨A, n, cap, hb1, hb2, hm, hcode, hmap⟩ := h.has
 obtain ⟨vs, v1, v2, hown, v4⟩ := hcode.rows
 have nbm := own_ne hown hm (by intro cur he; simp at he)
 obtain ⟨es, clk, hq0⟩ := hmap.isMap
 have nqb : bq ≠ bm := by rintro rfl; rw [hm] at hq0; cases hq0
 refine ⟨⟨A, n, cap, hb1, hb2, ?_, ?_, hmap.block (set_other nqb _)⟩, St.fit_bump h.fit hl⟩
 ·have := set_block (k := 1) hm (.int .i64 (s.next + 1))
  simp at this
  exact this
 ·exact ⟨hcode.len, vs, v1, v2, own_at hown fun a ha => set_other (nbm a ha) _, fun i x v hx hv => v4 i x v hx hv⟩
theorem mFresh_any (base bm bq : Nat) (s : St) (w : World) (h : Mk w base bm bq s) (hl : s.next < 100000) :
  Calls Tryd.prog 105 #[.pointer (some ⟨bm, 0, none⟩)] w (RetMkV w base bm bq s.bump (.int .i64 s.next)) := by
 have h1 := h.set1 hl
 obtain ⟨A, n, cap, hb1, hb2, hm, hcode, hmap⟩ := h.has
 have c1 := cells_of hm 1
 have f1 := frozen_of hm 1
 have hlt := block_lt hm
 simp at c1
 have hn : (s.next : Int) < 100000 := by omega
 have Hm := Lib.hid hm
 clear hm hcode hmap
 go_enter Tryd.func105, Tryd.ntmps105
 go_wp2
 go_ret
 refine ⟨by simp, h1, Below.setCell (Below.refl _ _) (by simpa using hb1) _, ⟨fun g hg => ⟨set_other hg.m _, ⟨by simpa using hg.lt, hg.m, hg.q, ?_⟩⟩⟩⟩
 have h2 := hg.c
 rw [cblk_of Hm.out] at h2
 have hm2 := set_block (k := 1) Hm.out (.int .i64 (s.next + 1))
 simp at hm2
 rw [cblk_of hm2]
 exact h2
theorem zeroI (w : World) : (zeroValue 3).run Tryd.prog w = .ok (.int .i64 0) w := by kernel_rfl
theorem Mk.keep {w w' : World} {base bm bq : Nat} {s : St} (h : Mk w base bm bq s) (hb : Below w.heap.size w w') : Mk w' base bm bq s := by
 obtain ⟨A, n, cap, hb1, hb2, hm, hcode, hmap⟩ := h.has
 exact ⟨⟨A, n, cap, hb1, hb2, (hb.block bm (block_lt hm)).trans hm, hcode.below keepsIn hb, hmap.below hb⟩, h.fit⟩
theorem Mk.lt {w : World} {base bm bq : Nat} {s : St} (h : Mk w base bm bq s) : base ≤ bm ∧ bm < w.heap.size ∧ base ≤ bq ∧ bq < w.heap.size := by
 obtain ⟨A, n, cap, hb1, hb2, hm, hcode, hmap⟩ := h.has
 exact ⟨hb1, block_lt hm, hb2, hmap.lt⟩
theorem Mk.mq {w : World} {base bm bq : Nat} {s : St} (h : Mk w base bm bq s) : bm ≠ bq := by
 obtain ⟨A, n, cap, hb1, hb2, hm, hcode, hmap⟩ := h.has
 obtain ⟨es, clk, hq0⟩ := hmap.isMap
 rintro rfl; rw [hm] at hq0; cases hq0
theorem Mk.c2 {w : World} {base bm bq : Nat} {s : St} (h : Mk w base bm bq s) : w.cell? ⟨bm, 2, none⟩ = some (.map (some bq)) := by
 obtain ⟨A, n, cap, hb1, hb2, hm, hcode, hmap⟩ := h.has
 exact cells_of hm 2
theorem Mk.map {w : World} {base bm bq : Nat} {s : St} (h : Mk w base bm bq s) : MapI Tryd.prog 3 w bq (prs s) := by
 obtain ⟨A, n, cap, hb1, hb2, hm, hcode, hmap⟩ := h.has
 exact hmap
theorem prs_len (s : St) (h : s.regs.length = s.vars.length) : (prs s).length = s.vars.length := by simp [prs, h]
theorem Mk.put {w w' : World} {base bm bq : Nat} {s : St} {v : Int} {r : Int} (h : Mk w base bm bq s) (hq : MapI Tryd.prog 3 w' bq (putMA (prs s) v (.int .i64 r))) (hg : w.grownBy w' (some bq)) (hlook : look (prs s) v = none)
  (hv : i64 v) (hr : 0 ≤ r ∧ r ≤ 100000) (hl : s.vars.length < 100000) : Mk w' base bm bq (s.addv v r) := by
 have hfit := h.fit
 obtain ⟨A, n, cap, hb1, hb2, hm, hcode, hmap⟩ := h.has
 obtain ⟨es, clk, hq0⟩ := hmap.isMap
 have nqb : bm ≠ bq := by rintro rfl; rw [hm] at hq0; cases hq0
 obtain ⟨vs, v1, v2, hown, v4⟩ := hcode.rows
 have nA := own_ne hown hq0 (by intro cur he; cases he)
 refine ⟨⟨A, n, cap, hb1, hb2, (hg.block bm (block_lt hm) (by simpa using nqb)).trans hm, ⟨hcode.len, vs, v1, v2, own_at hown fun a ha => hg.block _ (Own0.lt hown a ha).2 (by simpa using nA a ha), fun i x v hx hv => v4 i x v hx hv⟩, ?_⟩, ?_⟩
 ·rw [putA_new hlook] at hq
  have e : prs (s.addv v r) = prs s ++ [(v, .int .i64 r)] := by
   simp only [prs, St.addv]
   rw [List.zipWith_append hfit.same.symm]
   rfl
  rw [e]
  exact hq
 ·exact ⟨hfit.code, hfit.next, by simp [St.addv]; omega, by simp [St.addv, hfit.same], hfit.wf, fun x hx => by
   rcases List.mem_append.1 hx with hx | hx
   ·exact hfit.rg x hx
   ·simp at hx; subst hx; exact hr, fun x hx => by
   rcases List.mem_append.1 hx with hx | hx
   ·exact hfit.vr x hx
   ·simp at hx; subst hx; exact hv⟩
set_option maxRecDepth 100000 in
set_option maxHeartbeats 4000000 in
theorem mVariable_any (base bm bq : Nat) (s : St) (v x y : Int) (w : World) (hM : Mk w base bm bq s) (hv : i64 v) (hl : s.next < 100000) (hl2 : s.vars.length < 100000) :
  Calls Tryd.prog 103 #[.pointer (some ⟨bm, 0, none⟩), .int .i64 v, .int .i64 x, .int .i64 y] w (RetMkV w base bm bq (regF s v).1 (.tuple #[.int .i64 (regF s v).2.1, .int .i64 (if (regF s v).2.2 then x else y)])) := by
 have hfit := hM.fit
 have hmap := hM.map
 have c2 := hM.c2
 obtain ⟨hb1, hlt, hb2, hqlt⟩ := hM.lt
 rcases reg_cases s v hfit.same with ⟨hlook, hreg⟩ | ⟨r, hr, hlook, hreg⟩
 ·rw [hreg]
  have hMd := hM.keep (Below.refl _ _).drew
  have hpl := prs_len s hfit.same
  have Hlook := Lib.hid hlook
  clear hreg
  go_enter Tryd.func103, Tryd.ntmps103
  go_wp2_with (first
   | (at_lookup; go_must (refine wpList_map_ok rfl (.tmp 16) (.tmp 17) 143 rfl 3 Tryd.underlying3 Tryd.underlying143 (zeroI _) rfl hmap rfl hv ?_); rw [hlook]; simp only [Option.getD, Option.isSome]))
  clear hlook
  go_region_held3 (fun w' => w'.cell? ⟨bm, 2, none⟩ = some (.map (some bq)))
   (first | assumption | go_keep)
   (first
    | (go_at_call 105; refine (mFresh_any base bm bq s _ hMd hl).mono ?_; rintro e w1 ⟨rfl, hM1, hbn, hkn⟩; have q2 := hM1.c2; obtain ⟨w2, hrun, hq2, hg2⟩ := run_map_put (t := 143) 3 Tryd.underlying3 Tryd.underlying143 hM1.map (by rw [show prs s.bump = prs s from rfl]; omega) (.int .i64 s.next) hv; have hM2 := Mk.put hM1 hq2 hg2 Hlook.out hv (by omega) hl2; have q22 := hM2.c2; have hb2' := Below.grown (hbn.mono (Nat.le_refl _)) hg2 (by have := hM1.lt; omega) (by intro k hk; cases hk; exact hb2))
    | fail)
  have hq3 := hM2.map
  have hlook3 : look (prs (s.bump.addv v s.next)) v = some (.int .i64 s.next) := by
   have : prs (s.bump.addv v s.next) = putMA (prs s) v (.int .i64 s.next) := by
    rw [putA_new Hlook.out]
    simp only [prs, St.addv, St.bump]
    rw [List.zipWith_append hfit.same.symm]
    rfl
   rw [this, look_putA, if_pos rfl]
  go_wp2_with (first
   | (at_lookup; go_must (refine wpList_map_get rfl (.tmp 34) (.tmp 35) 143 rfl 3 Tryd.underlying3 Tryd.underlying143 (zeroI _) rfl hq3 rfl hv ?_); rw [hlook3]; simp only [Option.getD]))
  go_ret2
  refine ⟨rfl, hM2, Below.trans (Below.refl _ _).drew hb2', (Kept.below (Below.refl _ _).drew hlt).trans (hkn.trans ⟨fun g hg => ⟨hg2.block g hg.lt (by simpa using hg.q), ⟨Nat.lt_of_lt_of_le hg.lt hg2.size, hg.m, hg.q, ?_⟩⟩⟩)⟩
  have hm1 := hM1.lt
  rw [cblk_same (hg2.block bm hm1.2.1 (by simpa using hM1.mq))]
  exact hg.c
 ·rw [hreg]
  go_enter Tryd.func103, Tryd.ntmps103
  go_wp2_with (first
   | (at_lookup; go_must (refine wpList_map_ok rfl (.tmp 16) (.tmp 17) 143 rfl 3 Tryd.underlying3 Tryd.underlying143 (zeroI _) rfl hmap rfl hv ?_); rw [hlook]; simp only [Option.getD, Option.isSome]))
  go_ret2
  exact ⟨rfl, hM, Below.refl _ _, Kept.refl _ _ _⟩
end Go.Proofs.YtgipiplklaeplaaDoor
namespace Go.Proofs.YtgipiplklaeplaaDoor
open Go.RowKit
set_option maxRecDepth 100000 in
set_option maxHeartbeats 4000000 in
theorem mOne_any (base bm bq : Nat) (s : St) (T : Tm) (x y z : Int) (w : World) (hM : Mk w base bm bq s) (hT : T.ok = true) (hk : T.c0.kind ≠ 3) (hr : s.room 1) (hx : i64 x) (hy : i64 y) (hz : i64 z) :
  Calls Tryd.prog 104 #[.pointer (some ⟨bm, 0, none⟩), T.c0.val, .int .i64 x, .int .i64 y, .int .i64 z] w (RetMk w base bm bq (oneF x y z s T)) := by
 have hfit := hM.fit
 have hb : Below w.heap.size w (w.alloc (.cells #[.int .i64 T.c0.kind, .string T.c0.name, .int .i64 T.c0.n] 66)) := (Below.refl _ _).alloc (Nat.le_refl _) _
 have hM0 := hM.keep hb
 have hbase : base ≤ w.heap.size := by have := hM.lt; omega
 have hr1 := hr.code
 have hr2 := hr.next
 have hr3 := hr.vars
 have hw := c0_wf hT
 cases T with
 | v n =>
  have hvn : i64 n := hw.n
  have hreg := regF_reg hfit n (by omega)
  have hop : i64 (if (regF s n).2.2 then x else y) := by split <;> assumption
  have hvar := mVariable_any base bm bq s n x y _ hM0 hvn (by omega) (by omega)
  have hone : oneF x y z s (.v n) = (regF s n).1.emit { op := if (regF s n).2.2 then x else y, x := (regF s n).2.1 } := rfl
  have hcode := regF_code s n
  rw [hone]
  clear hone
  generalize (if (regF s n).2.2 then x else y) = op at *
  generalize (regF s n).2.1 = rg at *
  generalize (regF s n).1 = s1 at *
  unfold Tm.c0 C.val
  go_enter Tryd.func104, Tryd.ntmps104
  go_wp2_with (first
   | (go_at_call 103; go_must (refine hvar.mono ?_); rintro e w1 ⟨rfl, hM1, hb1, hk1⟩)
   | (go_at_call 84; go_must (refine (mEmit_any base bm bq s1 { op := op, x := rg } _ hM1 (wfI hop (i64_small (by omega) (by omega)) i64_0 i64_0 empty_size) (by rw [hcode]; omega)).mono ?_); rintro e w2 ⟨rfl, hM2, hb2, hk2⟩))
  go_end0
  exact ⟨rfl, hM2, Below.trans (hb.mono hbase) (hb1.trans hb2), (Kept.below hb hM.lt.2.1).trans (hk1.trans hk2)⟩
 | i n =>
  unfold Tm.c0 C.val
  go_enter Tryd.func104, Tryd.ntmps104
  go_wp2_with (first
   | (go_at_call 84; go_must (refine (mEmit_any base bm bq s { op := z, n := n } _ hM0 (wfI hz i64_0 i64_0 hw.n empty_size) (by omega)).mono ?_); rintro e w2 ⟨rfl, hM2, hb2, hk2⟩))
  go_end0
  exact ⟨rfl, hM2, Below.trans (hb.mono hbase) hb2, (Kept.below hb hM.lt.2.1).trans hk2⟩
 | f s us => exact absurd rfl hk
end Go.Proofs.YtgipiplklaeplaaDoor
