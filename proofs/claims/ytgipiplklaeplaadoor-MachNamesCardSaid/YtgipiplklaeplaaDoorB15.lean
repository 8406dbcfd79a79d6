/- Texts of this proof that belong together: words of memory, plain laws, walks. -/
import Derived.DeepKeys4
import Derived.Maps.OwnOps
import Derived.Maps.OwnSet
import Derived.Test.YtgipiplklaeplaaDoorRows
import Derived.WideKeyPair
import Derived.Test.YtgipiplklaeplaaDoorB01
import Derived.Test.YtgipiplklaeplaaDoorB05
import Derived.Test.YtgipiplklaeplaaDoorB06
import Derived.Test.YtgipiplklaeplaaDoorB14
set_option linter.unusedVariables false
set_option linter.unusedSimpArgs false
namespace Go.Proofs.YtgipiplklaeplaaDoor
open Go.RowKit Go.Maps
def rawR : Value → Option (DataW Value × List MemPlace) := fun v => some (.held v, [])
theorem i64_wf {k : Int} (h : i64 k) : (Lit.int .i64 k).wf = true := by
 unfold i64 at h
 simp [Lit.wf, IntKind.min, IntKind.max, IntKind.signed, IntKind.bits]
 omega
def pv (p : Nat × Nat) : Value := .agg #[.int .i64 (p.1 : Int), .int .i64 (p.2 : Int)]
def pOk (p : Nat × Nat) : Prop := p.1 < 1000000 ∧ p.2 < 1000000
theorem pv_inj {p q : Nat × Nat} (h : pv p = pv q) : p = q := by
 obtain ⟨a, b⟩ := p
 obtain ⟨c, d⟩ := q
 unfold pv at h
 injection h with h
 simp at h
 exact Prod.ext (by show a = c; have := h.1; omega) (by show b = d; have := h.2; omega)
structure KeyP (P : Program) (K : TypeId) : Prop where
 keyed : Keyed P K
 key : ∀ p, pOk p → ∃ l, keyOf P K (pv p) = some l
structure MapP (P : Program) (K : TypeId) (w : World) (b : Nat) (S : List (Nat × Nat)) : Prop where
 has : ∃ D : DataW Value, w.ownsMap P K rawR b S.length D ∧ Maps.size D = S.length ∧ (∀ p l, pOk p → keyOf P K (pv p) = some l → Maps.has D l = decide (p ∈ S)) ∧ ∀ p l, pOk p → keyOf P K (pv p) = some l → D.atKey l (.held (.bool false)) = .held (.bool (decide (p ∈ S)))
section
variable {P : Program} {K : TypeId} {w w' : World} {b : Nat} {S : List (Nat × Nat)}
theorem own_size {R : Value → Option (DataW Value × List MemPlace)} {n : Nat} {D : DataW Value} (h : w.ownsMap P K R b n D) : w.ownsMap P K R b (Maps.size D) D := by
 obtain ⟨es, clock, h1, F, h2, rfl⟩ := h
 exact ⟨es, clock, h1, F, by simp [Maps.size, length_sorted], rfl⟩
theorem MapP.made (w : World) (P : Program) (K : TypeId) : MapP P K (w.alloc (.map #[] 0)) w.heap.size [] :=
 ⟨.map [], World.ownsMap_made w P K rawR, rfl, fun _ _ _ _ => rfl, fun _ _ _ _ => rfl⟩
theorem MapP.lt (h : MapP P K w b S) : b < w.heap.size := by
 obtain ⟨D, h1, _⟩ := h.has
 exact h1.lt
theorem MapP.block (h : MapP P K w b S) (hb : w'.heap[b]? = w.heap[b]?) : MapP P K w' b S := by
 obtain ⟨D, ⟨es, clock, h1, h2⟩, h3⟩ := h.has
 exact ⟨D, ⟨es, clock, hb.trans h1, h2⟩, h3⟩
theorem MapP.below (h : MapP P K w b S) (hb : Below w.heap.size w w') : MapP P K w' b S := h.block (hb.block b h.lt)
theorem MapP.isMap (h : MapP P K w b S) : ∃ es clock, w.heap[b]? = some (.map es clock) := by
 obtain ⟨D, ⟨es, clock, h1, h2⟩, h3⟩ := h.has
 exact ⟨es, clock, h1⟩
variable {ops : Array Oper} {rest : List Oper} {o : Oper} {a : Act} {Q : Exit → Act → World → Prop}
theorem wpList_mapP_get (hkp : KeyP P K) (hw' : Region.wanted o (yielded ops a.tmps) = true) (m x : Operand) (t : TypeId) (hop : o.op = Op.lookup t m x false) (e : TypeId) (ht : P.underlying t = some (.map K e))
  (hz : (zeroValue e).run P w = .ok (.bool false) w) (hm : a.eval m = .map (some b)) (h : MapP P K w b S) {p : Nat × Nat} (hx : a.eval x = pv p) (hp : pOk p)
  (hK : wpList P ops Q rest (a.put o.dst (.bool (decide (p ∈ S)))) w) : wpList P ops Q (o :: rest) a w := by
 obtain ⟨D, h1, h2, h3, h4⟩ := h.has
 obtain ⟨l, hl⟩ := hkp.key p hp
 obtain ⟨v, ps, hrun, hv⟩ := h1.lookup hkp.keyed ht hz (zd := .held (.bool false)) (zp := []) rfl hl
 simp only [rawR, Option.some.injEq, Prod.mk.injEq] at hv
 have hv1 := hv.1
 rw [h4 p l hp hl] at hv1
 injection hv1 with hv1
 subst hv1
 refine wpList_run (Φ := fun v' w' => v' = .bool (decide (p ∈ S)) ∧ w' = w) hw' ⟨_, w, ?_, rfl, rfl⟩ ?_
 ·simp [execOp, hop, hm, hx, hrun, Result.andThen]
 ·rintro v' w2 ⟨rfl, rfl⟩
  exact hK
theorem run_mapP_put (hkp : KeyP P K) {t : TypeId} (e : TypeId) (ht : P.underlying t = some (.map K e))
  (h : MapP P K w b S) (hn : S.length < 1000000000) {p : Nat × Nat} (hp : pOk p) (hnew : p ∉ S) : ∃ w', (Instr.mapUpdate t (.map (some b)) (pv p) (.bool true)).run P w = .ok () w' ∧ MapP P K w' b (p :: S) ∧ w.grownBy w' (some b) := by
 obtain ⟨D, h1, h2, h3, h4⟩ := h.has
 obtain ⟨l, hl⟩ := hkp.key p hp
 obtain ⟨w', hrun, hown, hgr⟩ := h1.update hkp.keyed ht (by unfold maxLen; omega) hl (d := .held (.bool true)) (ps := []) (val := .bool true) rfl
 have hkl := hkp.keyed.key hl
 have hsz : Maps.size (D.put l (.held (.bool true))) = (p :: S).length := by
  rw [size_put (h1.tidy hkp.keyed), h3 p l hp hl, h2]
  simp [hnew]
 have hne : ∀ q l', pOk q → keyOf P K (pv q) = some l' → q ≠ p → l' ≠ l := by
  intro q l' hq hl' hqp e
  subst e
  exact hqp (pv_inj (hkp.keyed.inj hl' hl))
 refine ⟨w', hrun, ⟨⟨D.put l (.held (.bool true)), ?_, hsz, ?_, ?_⟩⟩, hgr⟩
 ·have := own_size hown
  rwa [hsz] at this
 ·intro q l' hq hl'
  by_cases e : q = p
  ·subst e
   obtain rfl : l = l' := by rw [hl] at hl'; injection hl'
   rw [has_put_same h1.isMap hkl]; simp
  ·rw [has_put_other (hne q l' hq hl' e), h3 q l' hq hl']; simp [e]
 ·intro q l' hq hl'
  by_cases e : q = p
  ·subst e
   obtain rfl : l = l' := by rw [hl] at hl'; injection hl'
   rw [atKey_put_same h1.isMap hkl]; simp
  ·rw [atKey_put_other (hne q l' hq hl' e), h4 q l' hq hl']; simp [e]
theorem wpList_mapP_put (hkp : KeyP P K) (hw' : Region.wanted o (yielded ops a.tmps) = true) (m x y : Operand) (t : TypeId) (hop : o.op = Op.mapUpdate t m x y) (e : TypeId) (ht : P.underlying t = some (.map K e))
  (hm : a.eval m = .map (some b)) (h : MapP P K w b S) (hn : S.length < 1000000000) {p : Nat × Nat} (hx : a.eval x = pv p) (hy : a.eval y = .bool true) (hp : pOk p) (hnew : p ∉ S)
  (hK : ∀ w', MapP P K w' b (p :: S) → w.grownBy w' (some b) → wpList P ops Q rest (a.put o.dst undef) w') : wpList P ops Q (o :: rest) a w := by
 obtain ⟨w', hrun, r1, r2⟩ := run_mapP_put hkp e ht h hn hp hnew
 refine wpList_step fun K hK' => ?_
 rw [if_pos hw']
 unfold Oper.wp
 simp [execOp, hop, hm, hx, hy, hrun, Result.andThen]
 exact hK' _ _ (hK w' r1 r2)
end
theorem size_succ {n k : Nat} (h : k < n) : ∃ m, n = m + 1 := ⟨n - 1, by omega⟩
theorem arrPair : Go.WideMaps.ArrKey Tryd.prog 234 3 2 := ⟨Tryd.underlying234, by kernel_rfl, by kernel_rfl, by kernel_rfl⟩
theorem keyPair : KeyP Tryd.prog 234 where
 keyed := Keyed.of_law arrPair.law
 key := by
  intro p hp
  have hr : (234 : TypeId) < Tryd.prog.types.size := of_decide_eq_true (by kernel_rfl)
  have hsz := size_succ hr
  exact ⟨_, Go.WideMaps.keyOf_pair arrPair Tryd.underlying3 hsz (i64_wf (by unfold i64; have := hp.1; omega)) (i64_wf (by unfold i64; have := hp.2; omega))⟩
end Go.Proofs.YtgipiplklaeplaaDoor
namespace Go.Proofs.YtgipiplklaeplaaDoor
open Go.RowKit
set_option maxRecDepth 100000 in
theorem eqP (a b c d : Int) (w : World) : (binOp .eql 234 (.agg #[.int .i64 a, .int .i64 b]) (.agg #[.int .i64 c, .int .i64 d])).run Tryd.prog w = .ok (.bool (decide (a = c ∧ b = d))) w := by
 obtain ⟨i, hi⟩ : ∃ i, Tryd.prog.info? 3 = some i := Option.isSome_iff_exists.1 (by kernel_rfl)
 have hc : Tryd.prog.cellsOf 3 = 1 := by kernel_rfl
 have h : (Op.equalIn 10000 234 (.agg #[.int .i64 a, .int .i64 b]) (.agg #[.int .i64 c, .int .i64 d])).run Tryd.prog w = .ok (decide (a = c ∧ b = d)) w := by
  refine (Go.run_equalIn_array w 9999 #[.int .i64 a, .int .i64 b] #[.int .i64 c, .int .i64 d] Tryd.underlying234 hi).trans ?_
  rw [hc]
  by_cases h1 : a = c <;> by_cases h2 : b = d <;> simp [List.range_succ, Op.eqItems, h1, h2, go_sem, part]
 go_simp
end Go.Proofs.YtgipiplklaeplaaDoor
namespace Go.Proofs.YtgipiplklaeplaaDoor
open Go.RowKit
structure Gu (w : World) (base gb : Nat) (l : List C) (tr : List Int) (r : Int) : Prop where
 has : ∃ A n c B m d, base ≤ gb ∧ w.heap[gb]? = some (.cells #[.slice A n c, .slice B m d, .int .i64 r] 44 (0, 0)) ∧ w.ownsRow base 90 3 (.slice A n c) n (flatC l) ∧ w.ownsRow base 3 1 (.slice B m d) m (tr.map (Value.int .i64))
 wfc : ∀ c ∈ l, c.wf
 wfi : ∀ x ∈ tr, i64 x
structure GKept (w w' : World) (gb : Nat) : Prop where
 size : w.heap.size ≤ w'.heap.size
 cells : ∀ (g : Nat) cs t, t ≠ 90 → t ≠ 3 → g ≠ gb → w.heap[g]? = some (.cells cs t (0, 0)) → w'.heap[g]? = some (.cells cs t (0, 0))
 map : ∀ (g : Nat) es k, w.heap[g]? = some (Obj.map es k) → w'.heap[g]? = some (Obj.map es k)
theorem Gu.below {w w' : World} {base gb : Nat} {l : List C} {tr : List Int} {r : Int} (h : Gu w base gb l tr r) (hb : Below w.heap.size w w') : Gu w' base gb l tr r := by
 obtain ⟨A, n, c, B, m, d, h1, h2, h3, h4⟩ := h.has
 exact ⟨⟨A, n, c, B, m, d, h1, (hb.block gb (block_lt h2)).trans h2, own_below h3 hb, own_below h4 hb⟩, h.wfc, h.wfi⟩
theorem heap_ne : 44 ≠ 90 ∧ 44 ≠ 3 ∧ 90 ≠ 3 := by decide
theorem setN_bnd (l : List C) (p q : Nat) : setN l p q = bnd l p q := rfl
def RetBind (w : World) (base gb : Nat) (l : List C) (tr : List Int) (r : Int) (p q : Nat) (e : Ending) (w' : World) : Prop := e = .returned (.tuple #[]) ∧ Gu w' base gb (bnd l p q) (tr ++ [(p : Int)]) r ∧ Below base w w' ∧ GKept w w' gb
set_option maxRecDepth 100000 in
set_option maxHeartbeats 2000000 in
theorem hbind_any (base gb : Nat) (l : List C) (tr : List Int) (r : Int) (p q : Nat) (w : World) (h : Gu w base gb l tr r) (hb0 : base ≤ w.heap.size) (hp : p < l.length) (hq : q ≤ 1000000) (hl : l.length ≤ 100000) (ht : tr.length ≤ 100000) :
  Calls Tryd.prog 171 #[.int .i64 p, .int .i64 q, .pointer (some ⟨gb, 0, none⟩)] w (RetBind w base gb l tr r p q) := by
 obtain ⟨A, n, c, B, m, d, g1, g2, g3, g4⟩ := h.has
 have hwfc := h.wfc
 have hwfi := h.wfi
 have hln := g3.1
 rw [flatC_len] at hln
 have hlm := g4.1
 rw [List.length_map, Nat.mul_one] at hlm
 obtain ⟨ga, xv, rfl, r0, r1, r2, r3, r4, r5, r6⟩ := own_setn (i := p) (q := q) g3 (by omega) (by omega)
 unfold maxLen at r5
 obtain ⟨y0, y1, y2, yl⟩ := open3 g2
 have hne1 := own_ne g3 g2 (by intro cur he; injection he with f1 f2 f3; exact heap_ne.1 f2) _ rfl
 have hne2 := own_ne g4 g2 (by intro cur he; injection he with f1 f2 f3; exact heap_ne.2.1 f2)
 simp only at hne1
 have hgga : ¬ gb = ga := fun e => hne1 e.symm
 have hpn : p < n := by omega
 have hmm : m ≤ 100000 := by omega
 have g2' : (w.setCell ⟨ga, p * 3 + 2, none⟩ (.int .i64 (q : Int))).heap[gb]? = some (.cells #[.slice (some ⟨ga, 0, none⟩) n c, .slice B m d, .int .i64 r] 44 (0, 0)) := (set_other hgga _).trans g2
 obtain ⟨z0, z1, z2, zl⟩ := open3 g2'
 have zf := frozen_of g2' 1
 have hbS : Below base w (w.setCell ⟨ga, p * 3 + 2, none⟩ (.int .i64 (q : Int))) := Below.setCell (p := ⟨ga, p * 3 + 2, none⟩) (Below.refl base w) r2 _
 obtain ⟨_, cura, hca⟩ := own0_typ (.inr g3) (show 0 < c by omega) _ rfl
 simp only at hca
 have hneB : ∀ b, B = some b → b.block ≠ ga := by
  intro b hb he
  rw [← he] at hca
  exact own_ne g4 hca (by intro cur he; injection he with f1 f2 f3; exact heap_ne.2.2 f2) b hb rfl
 have g4' : (w.setCell ⟨ga, p * 3 + 2, none⟩ (.int .i64 (q : Int))).ownsRow base 3 1 (.slice B m d) m (tr.map (Value.int .i64)) := own_at g4 (fun b hb => set_other (hneB b hb) _)
 have hszS : (w.setCell ⟨ga, p * 3 + 2, none⟩ (.int .i64 (q : Int))).heap.size = w.heap.size := by simp
 have Hca := Lib.hid hca
 have G2o := Lib.hid g2
 have G4o := Lib.hid g4
 have G2' := Lib.hid g2'
 have G4' := Lib.hid g4'
 have R6 := Lib.hid r6
 have HbS := Lib.hid hbS
 have Hne2 := Lib.hid hne2
 have HneB := Lib.hid hneB
 have H := Lib.hid h
 clear hca g2 g3 g4 g2' g4' r6 hbS hne2 hneB hwfc hwfi h
 go_enter Tryd.func171, Tryd.ntmps171
 go_wp2_with (first
  | (at_builtin; go_must (refine wpList_append_sl rfl (.tmp 12) (.tmp 14) 42 rfl base 3 Tryd.underlying42 infoI rfl (by omega) rfl (G4'.out.alloc _) rfl (Sl.lit (w.setCell ⟨ga, p * 3 + 2, none⟩ (.int .i64 (q : Int))) _ [.int .i64 (p : Int)] 3 1 1 (by simp) rfl (by simp [maxLen])) (one1 rfl) (by omega) (by omega) (by simp; omega) ?_); intro B2 cap2 w2 hown2 hb2 hgr2 hblk2; have x9 := (grown_block (g := gb) hgr2 (by simp; omega) Hne2.out).trans ((alloc_past zl).trans G2'.out); obtain ⟨s0, s1, s2, sl⟩ := open3 x9; have sf := frozen_of x9 1))
 go_end0
 have x10 : (w2.setCell ⟨gb, 1, none⟩ (.slice B2 (m + 1) cap2)).heap[gb]? = some (.cells #[.slice (some ⟨ga, 0, none⟩) n c, .slice B2 (m + 1) cap2, .int .i64 r] 44 (0, 0)) := by
  have := set_block (k := 1) x9 (.slice B2 (m + 1) cap2); simpa using this
 have hkeep : ∀ g x, w.heap[g]? = some x → g ≠ ga → g ≠ gb → (∀ b, B = some b → b.block ≠ g) → (w2.setCell ⟨gb, 1, none⟩ (.slice B2 (m + 1) cap2)).heap[g]? = some x := by
  intro g x hx n1 n2 n3
  have hlt := block_lt hx
  rw [set_other n2, grown_block (g := g) hgr2 (by simp; omega) n3, alloc_past (by rw [hszS]; exact hlt), set_other n1]
  exact hx
 have hown3 : w2.ownsRow base 90 3 (.slice (some ⟨ga, 0, none⟩) n c) n (flatC (setN l p q)) := own_at R6.out (fun a ha => by
  cases ha
  exact (grown_block (g := ga) hgr2 (by simp; omega) HneB.out).trans (alloc_past (by rw [hszS]; exact r3)))
 refine ⟨rfl, ⟨⟨some ⟨ga, 0, none⟩, n, c, B2, m + 1, cap2, g1, x10, ?_, ?_⟩, ?_, ?_⟩, ?_, ⟨?_, ?_, ?_⟩⟩
 ·rw [← setN_bnd]
  exact own_at hown3 (fun a ha => by cases ha; exact set_other (fun e => hgga e.symm) _)
 ·rw [List.map_append]
  exact own_at hown2 (fun a ha => set_other (own_ne hown2 x9 (by intro cur he; injection he with f1 f2 f3; exact heap_ne.2.1 f2) a ha) _)
 ·exact setN_wf H.out.wfc hp hq
 ·intro x hx
  rcases List.mem_append.1 hx with hx | hx
  ·exact H.out.wfi x hx
  ·simp at hx; subst hx; unfold i64; omega
 ·exact (HbS.out.trans (((Below.refl base _).alloc (by rw [hszS]; exact hb0) _).trans hb2)).setCell g1 _
 ·have h1 := hb2.size
  simp at h1 ⊢
  omega
 ·intro g cs t n1 n2 n3 hx
  refine hkeep g _ hx ?_ n3 (own_ne G4o.out hx (by intro cur he; injection he with f1 f2 f3; exact n2 f2))
  rintro rfl
  rw [Hca.out] at hx
  injection hx with hx
  injection hx with f1 f2 f3
  exact n1 f2.symm
 ·intro g es k hx
  refine hkeep g _ hx ?_ ?_ (own_ne G4o.out hx (by intro cur he; cases he))
  ·rintro rfl
   rw [Hca.out] at hx
   cases hx
  ·rintro rfl
   rw [G2o.out] at hx
   cases hx
end Go.Proofs.YtgipiplklaeplaaDoor
namespace Go.Proofs.YtgipiplklaeplaaDoor
open Go.RowKit
def argsRev (p : Nat) : Nat → List Nat
 | 0 => []
 | n + 1 => (p + (n + 1)) :: argsRev p n
theorem args_rev (p : Nat) : ∀ n, (argsRev p n).reverse = (List.range n).map (fun i => p + 1 + i)
 | 0 => rfl
 | n + 1 => by
  rw [argsRev, List.reverse_cons, args_rev p n, List.range_succ, List.map_append]
  simp; omega
theorem vles_append (n : Int) : ∀ a b : List Tm, vles n (a ++ b) = (vles n a && vles n b)
 | [], b => by simp [vles]
 | t :: a, b => by rw [List.cons_append, vles, vles, vles_append n a b, Bool.and_assoc]
structure GetI (l : List C) (p : Nat) (out : List C) (R : List Nat) : Prop where
 flat : out ++ flats (R.reverse.map (den l)) = (den l p).flat
 vle : vles 999 (R.reverse.map (den l)) = (den l p).vle 999
 rl : ∀ q ∈ R, q < l.length
 len : out.length ≤ 200
theorem GetI.start {l : List C} {p : Nat} (hp : p < l.length) : GetI l p [] [p] := ⟨by simp [flats], by simp [vles], by simpa using hp, by simp⟩
theorem GetI.done {l : List C} {p : Nat} {out : List C} (h : GetI l p out []) : getF l p = some out := by
 have h1 := h.flat
 have h2 := h.vle
 have h3 := h.len
 simp [flats] at h1
 simp [vles] at h2
 have h4 := flat_size (den l p)
 rw [← h1] at h4
 unfold getF
 rw [if_pos ⟨by omega, h2⟩, ← h1]
theorem GetI.long {l : List C} {p a : Nat} {out : List C} {R : List Nat} (h : GetI l p out (R ++ [a])) (ho : out.length = 200) : getF l p = none := by
 have h1 := congrArg List.length h.flat
 rw [flat_size] at h1
 simp only [List.reverse_append, List.reverse_cons, List.reverse_nil, List.nil_append, List.cons_append, List.map_cons, flats_cons, List.length_append] at h1
 have h2 := flat_size (den l a)
 have h3 := (den l a).size_pos
 unfold getF
 rw [if_neg (by rintro ⟨h4, _⟩; omega)]
theorem GetI.great {l : List C} (hg : Good l) {p a : Nat} {out : List C} {R : List Nat} (h : GetI l p out (R ++ [a])) (hk : (sAt l (fol l a)).kind = 1) (hb : 999 < fol l a) : getF l p = none := by
 have ha : a < l.length := h.rl a (by simp)
 have hd := hg.den_eq ha
 rw [if_neg (by rw [hk]; decide), if_neg (by rw [hk]; decide)] at hd
 have h1 := h.vle
 simp only [List.reverse_append, List.reverse_cons, List.reverse_nil, List.nil_append, List.cons_append, List.map_cons, vles] at h1
 rw [hd] at h1
 have h2 : (Tm.v ((fol l a : Nat) : Int)).vle 999 = false := by simp [Tm.vle]; omega
 rw [h2] at h1
 simp at h1
 unfold getF
 rw [if_neg (by rintro ⟨_, h4⟩; rw [h4] at h1; cases h1)]
theorem GetI.step {l : List C} {p a : Nat} {out : List C} {R N : List Nat} {c : C} (h : GetI l p out (R ++ [a])) (ho : out.length < 200) (hf : (den l a).flat = c :: flats (N.reverse.map (den l))) (hv : (den l a).vle 999 = vles 999 (N.reverse.map (den l))) (hN : ∀ q ∈ N, q < l.length) :
  GetI l p (out ++ [c]) (R ++ N) := by
 refine ⟨?_, ?_, ?_, by simp; omega⟩
 ·rw [← h.flat]
  simp [flats_append, flats_cons, hf]
 ·rw [← h.vle]
  simp [vles_append, vles, hv]
 ·intro q hq
  rcases List.mem_append.1 hq with hq | hq
  ·exact h.rl q (by simp [hq])
  ·exact hN q hq
theorem GetI.var {l : List C} (hg : Good l) {p a : Nat} {out : List C} {R : List Nat} (h : GetI l p out (R ++ [a])) (ho : out.length < 200) (hk : (sAt l (fol l a)).kind = 1) (hb : fol l a ≤ 999) : GetI l p (out ++ [⟨1, ⟨#[]⟩, ((fol l a : Nat) : Int)⟩]) R := by
 have ha : a < l.length := h.rl a (by simp)
 have hd := hg.den_eq ha
 rw [if_neg (by rw [hk]; decide), if_neg (by rw [hk]; decide)] at hd
 have := h.step ho (N := []) (c := ⟨1, ⟨#[]⟩, ((fol l a : Nat) : Int)⟩) (by rw [hd]; rfl) (by rw [hd]; simp [Tm.vle, vles]; omega) (by simp)
 simpa using this
theorem GetI.num {l : List C} (hg : Good l) {p a : Nat} {out : List C} {R : List Nat} (h : GetI l p out (R ++ [a])) (ho : out.length < 200) (hk : (sAt l (fol l a)).kind = 2) : GetI l p (out ++ [⟨2, ⟨#[]⟩, (sAt l (fol l a)).n⟩]) R := by
 have ha : a < l.length := h.rl a (by simp)
 have hd := hg.den_eq ha
 rw [if_neg (by rw [hk]; decide), if_pos hk] at hd
 have := h.step ho (N := []) (c := ⟨2, ⟨#[]⟩, (sAt l (fol l a)).n⟩) (by rw [hd]; rfl) (by rw [hd]; simp [Tm.vle, vles]) (by simp)
 simpa using this
theorem GetI.top {l : List C} (hg : Good l) {p a : Nat} {out : List C} {R : List Nat} (h : GetI l p out (R ++ [a])) (ho : out.length < 200) (hk : (sAt l (fol l a)).kind = 4) : GetI l p (out ++ [⟨3, (sAt l (fol l a)).name, (sAt l (fol l a)).n⟩]) (R ++ argsRev (fol l a) (sAt l (fol l a)).n.toNat) := by
 have ha : a < l.length := h.rl a (by simp)
 have hd := hg.den_eq ha
 rw [if_pos hk] at hd
 have hq := (hg.fol_end ha).2
 have ht := ok_top (shp_at hg.shp hq) hk
 have hm : (argsRev (fol l a) (sAt l (fol l a)).n.toNat).reverse.map (den l) = (List.range (sAt l (fol l a)).n.toNat).map fun i => den l (fol l a + 1 + i) := by
  rw [args_rev, List.map_map]; rfl
 refine h.step ho ?_ ?_ ?_
 ·rw [hm, hd]
  simp only [Tm.flat, List.length_map, List.length_range]
  rw [show (((sAt l (fol l a)).n.toNat : Nat) : Int) = (sAt l (fol l a)).n by omega]
 ·rw [hm, hd]; rfl
 ·intro q hq'
  have : q ∈ (argsRev (fol l a) (sAt l (fol l a)).n.toNat).reverse := List.mem_reverse.2 hq'
  rw [args_rev] at this
  obtain ⟨i, hi, rfl⟩ := List.mem_map.1 this
  simp at hi
  omega
end Go.Proofs.YtgipiplklaeplaaDoor
