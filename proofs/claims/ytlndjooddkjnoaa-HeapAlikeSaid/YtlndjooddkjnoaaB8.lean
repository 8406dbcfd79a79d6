/- Texts of this proof that belong together: words of memory, plain laws, short walks. -/
import Derived.Test.YtlndjooddkjnoaaB1
import Derived.Test.YtlndjooddkjnoaaHU1
import Derived.WideKeyPair
import Derived.Maps.OwnSet
import Derived.Maps.OwnOps
import Derived.Test.YtlndjooddkjnoaaB0
import Derived.Test.YtlndjooddkjnoaaRows
import Derived.DeepKeys4
import Derived.Test.YtlndjooddkjnoaaHE
import Derived.WalkMore
import Derived.Test.YtlndjooddkjnoaaHG1
set_option linter.unusedVariables false
set_option linter.unusedSimpArgs false
/- The walk of the closure of the code's Unify: a variable bound. -/
namespace Go.Proofs.Ytlndjooddkjnoaa
open Go.RowKit

/-- the heap that is made -/
structure Gu (w : World) (base gb : Nat) (l : List C) (tr : List Int) (r : Int) : Prop where
  has : ∃ A n c B m d, base ≤ gb ∧ w.heap[gb]? = some (.cells #[.slice A n c, .slice B m d, .int .i64 r] 25 (0, 0)) ∧ w.ownsRow base 68 3 (.slice A n c) n (flatC l) ∧ w.ownsRow base 3 1 (.slice B m d) m (tr.map (Value.int .i64))
  wfc : ∀ c ∈ l, c.wf
  wfi : ∀ x ∈ tr, i64 x
/-- blocks of other kinds stay -/
structure GKept (w w' : World) (gb : Nat) : Prop where
  size : w.heap.size ≤ w'.heap.size
  cells : ∀ (g : Nat) cs t, t ≠ 68 → t ≠ 3 → g ≠ gb → w.heap[g]? = some (.cells cs t (0, 0)) → w'.heap[g]? = some (.cells cs t (0, 0))
  map : ∀ (g : Nat) es k, w.heap[g]? = some (Obj.map es k) → w'.heap[g]? = some (Obj.map es k)
theorem Gu.below {w w' : World} {base gb : Nat} {l : List C} {tr : List Int} {r : Int} (h : Gu w base gb l tr r) (hb : Below w.heap.size w w') : Gu w' base gb l tr r := by
  obtain ⟨A, n, c, B, m, d, h1, h2, h3, h4⟩ := h.has
  exact ⟨⟨A, n, c, B, m, d, h1, (hb.block gb (block_lt h2)).trans h2, own_below h3 hb, own_below h4 hb⟩, h.wfc, h.wfi⟩
theorem heap_ne : 25 ≠ 68 ∧ 25 ≠ 3 ∧ 68 ≠ 3 := by decide
theorem setN_bnd (l : List C) (p q : Nat) : setN l p q = bnd l p q := rfl
def RetBind (w : World) (base gb : Nat) (l : List C) (tr : List Int) (r : Int) (p q : Nat) (e : Ending) (w' : World) : Prop := e = .returned (.tuple #[]) ∧ Gu w' base gb (bnd l p q) (tr ++ [(p : Int)]) r ∧ Below base w w' ∧ GKept w w' gb
set_option maxRecDepth 100000 in
set_option maxHeartbeats 2000000 in
theorem hbind_any (base gb : Nat) (l : List C) (tr : List Int) (r : Int) (p q : Nat) (w : World) (h : Gu w base gb l tr r) (hb0 : base ≤ w.heap.size) (hp : p < l.length) (hq : q ≤ 1000000) (hl : l.length ≤ 100000) (ht : tr.length ≤ 100000) :
    Calls Try.prog 61 #[.int .i64 p, .int .i64 q, .pointer (some ⟨gb, 0, none⟩)] w (RetBind w base gb l tr r p q) := by
  obtain ⟨A, n, c, B, m, d, g1, g2, g3, g4⟩ := h.has
  have hwfc := h.wfc
  have hwfi := h.wfi
  have hln := g3.1
  rw [flatC_len] at hln
  have hlm := g4.1
  rw [List.length_map, Nat.mul_one] at hlm
  obtain ⟨ga, xv, rfl, r0, r1, r2, r3, r4, r5, r6⟩ := own_setn (i := p) (q := q) g3 (by omega) (by omega)
  unfold maxLen at r5
  obtain ⟨y0, y1, y2, yl⟩ := open3 g2
  have hne1 := own_ne g3 g2 (by intro cur he; injection he with f1 f2 f3; exact heap_ne.1 f2) _ rfl
  have hne2 := own_ne g4 g2 (by intro cur he; injection he with f1 f2 f3; exact heap_ne.2.1 f2)
  simp only at hne1
  have hgga : ¬ gb = ga := fun e => hne1 e.symm
  have hpn : p < n := by omega
  have hmm : m ≤ 100000 := by omega
  have g2' : (w.setCell ⟨ga, p * 3 + 2, none⟩ (.int .i64 (q : Int))).heap[gb]? = some (.cells #[.slice (some ⟨ga, 0, none⟩) n c, .slice B m d, .int .i64 r] 25 (0, 0)) := (set_other hgga _).trans g2
  obtain ⟨z0, z1, z2, zl⟩ := open3 g2'
  have zf := frozen_of g2' 1
  have hbS : Below base w (w.setCell ⟨ga, p * 3 + 2, none⟩ (.int .i64 (q : Int))) := Below.setCell (p := ⟨ga, p * 3 + 2, none⟩) (Below.refl base w) r2 _
  obtain ⟨_, cura, hca⟩ := own0_typ (.inr g3) (show 0 < c by omega) _ rfl
  simp only at hca
  have hneB : ∀ b, B = some b → b.block ≠ ga := by
    intro b hb he
    rw [← he] at hca
    exact own_ne g4 hca (by intro cur he; injection he with f1 f2 f3; exact heap_ne.2.2 f2) b hb rfl
  have g4' : (w.setCell ⟨ga, p * 3 + 2, none⟩ (.int .i64 (q : Int))).ownsRow base 3 1 (.slice B m d) m (tr.map (Value.int .i64)) := own_at g4 (fun b hb => set_other (hneB b hb) _)
  have hszS : (w.setCell ⟨ga, p * 3 + 2, none⟩ (.int .i64 (q : Int))).heap.size = w.heap.size := by simp
  have Hca := Lib.hid hca
  have G2o := Lib.hid g2
  have G4o := Lib.hid g4
  have G2' := Lib.hid g2'
  have G4' := Lib.hid g4'
  have R6 := Lib.hid r6
  have HbS := Lib.hid hbS
  have Hne2 := Lib.hid hne2
  have HneB := Lib.hid hneB
  have H := Lib.hid h
  clear hca g2 g3 g4 g2' g4' r6 hbS hne2 hneB hwfc hwfi h
  go_enter Try.func61, Try.ntmps61
  go_wp2_with (first
    | (at_builtin; go_must (refine wpList_append_sl rfl (.tmp 12) (.tmp 14) 23 rfl base 3 Try.underlying23 infoI rfl (by omega) rfl (G4'.out.alloc _) rfl (Sl.lit (w.setCell ⟨ga, p * 3 + 2, none⟩ (.int .i64 (q : Int))) _ [.int .i64 (p : Int)] 3 1 1 (by simp) rfl (by simp [maxLen])) (one1 rfl) (by omega) (by omega) (by simp; omega) ?_); intro B2 cap2 w2 hown2 hb2 hgr2 hblk2; have x9 := (grown_block (g := gb) hgr2 (by simp; omega) Hne2.out).trans ((alloc_past zl).trans G2'.out); obtain ⟨s0, s1, s2, sl⟩ := open3 x9; have sf := frozen_of x9 1))
  go_end0
  have x10 : (w2.setCell ⟨gb, 1, none⟩ (.slice B2 (m + 1) cap2)).heap[gb]? = some (.cells #[.slice (some ⟨ga, 0, none⟩) n c, .slice B2 (m + 1) cap2, .int .i64 r] 25 (0, 0)) := by
    have := set_block (k := 1) x9 (.slice B2 (m + 1) cap2); simpa using this
  have hkeep : ∀ g x, w.heap[g]? = some x → g ≠ ga → g ≠ gb → (∀ b, B = some b → b.block ≠ g) → (w2.setCell ⟨gb, 1, none⟩ (.slice B2 (m + 1) cap2)).heap[g]? = some x := by
    intro g x hx n1 n2 n3
    have hlt := block_lt hx
    rw [set_other n2, grown_block (g := g) hgr2 (by simp; omega) n3, alloc_past (by rw [hszS]; exact hlt), set_other n1]
    exact hx
  have hown3 : w2.ownsRow base 68 3 (.slice (some ⟨ga, 0, none⟩) n c) n (flatC (setN l p q)) := own_at R6.out (fun a ha => by
    cases ha
    exact (grown_block (g := ga) hgr2 (by simp; omega) HneB.out).trans (alloc_past (by rw [hszS]; exact r3)))
  refine ⟨rfl, ⟨⟨some ⟨ga, 0, none⟩, n, c, B2, m + 1, cap2, g1, x10, ?_, ?_⟩, ?_, ?_⟩, ?_, ⟨?_, ?_, ?_⟩⟩
  · rw [← setN_bnd]
    exact own_at hown3 (fun a ha => by cases ha; exact set_other (fun e => hgga e.symm) _)
  · rw [List.map_append]
    exact own_at hown2 (fun a ha => set_other (own_ne hown2 x9 (by intro cur he; injection he with f1 f2 f3; exact heap_ne.2.1 f2) a ha) _)
  · exact setN_wf H.out.wfc hp hq
  · intro x hx
    rcases List.mem_append.1 hx with hx | hx
    · exact H.out.wfi x hx
    · simp at hx; subst hx; unfold i64; omega
  · exact (HbS.out.trans (((Below.refl base _).alloc (by rw [hszS]; exact hb0) _).trans hb2)).setCell g1 _
  · have h1 := hb2.size
    simp at h1 ⊢
    omega
  · intro g cs t n1 n2 n3 hx
    refine hkeep g _ hx ?_ n3 (own_ne G4o.out hx (by intro cur he; injection he with f1 f2 f3; exact n2 f2))
    rintro rfl
    rw [Hca.out] at hx
    injection hx with hx
    injection hx with f1 f2 f3
    exact n1 f2.symm
  · intro g es k hx
    refine hkeep g _ hx ?_ ?_ (own_ne G4o.out hx (by intro cur he; cases he))
    · rintro rfl
      rw [Hca.out] at hx
      cases hx
    · rintro rfl
      rw [G2o.out] at hx
      cases hx
end Go.Proofs.Ytlndjooddkjnoaa

/- Maps of pairs of places: which pairs are in. -/
namespace Go.Proofs.Ytlndjooddkjnoaa
open Go.RowKit Go.Maps

def rawR : Value → Option (DataW Value × List MemPlace) := fun v => some (.held v, [])
theorem i64_wf {k : Int} (h : i64 k) : (Lit.int .i64 k).wf = true := by
  unfold i64 at h
  simp [Lit.wf, IntKind.min, IntKind.max, IntKind.signed, IntKind.bits]
  omega
def pv (p : Nat × Nat) : Value := .agg #[.int .i64 (p.1 : Int), .int .i64 (p.2 : Int)]
def pOk (p : Nat × Nat) : Prop := p.1 < 1000000 ∧ p.2 < 1000000
theorem pv_inj {p q : Nat × Nat} (h : pv p = pv q) : p = q := by
  obtain ⟨a, b⟩ := p
  obtain ⟨c, d⟩ := q
  unfold pv at h
  injection h with h
  simp at h
  exact Prod.ext (by show a = c; have := h.1; omega) (by show b = d; have := h.2; omega)
/-- keys that are pairs -/
structure KeyP (P : Program) (K : TypeId) : Prop where
  keyed : Keyed P K
  key : ∀ p, pOk p → ∃ l, keyOf P K (pv p) = some l
/-- block b is a map that holds 'true' at these pairs -/
structure MapP (P : Program) (K : TypeId) (w : World) (b : Nat) (S : List (Nat × Nat)) : Prop where
  has : ∃ D : DataW Value, w.ownsMap P K rawR b S.length D ∧ Maps.size D = S.length ∧ (∀ p l, pOk p → keyOf P K (pv p) = some l → Maps.has D l = decide (p ∈ S)) ∧ ∀ p l, pOk p → keyOf P K (pv p) = some l → D.atKey l (.held (.bool false)) = .held (.bool (decide (p ∈ S)))
section
variable {P : Program} {K : TypeId} {w w' : World} {b : Nat} {S : List (Nat × Nat)}
theorem own_size {R : Value → Option (DataW Value × List MemPlace)} {n : Nat} {D : DataW Value} (h : w.ownsMap P K R b n D) : w.ownsMap P K R b (Maps.size D) D := by
  obtain ⟨es, clock, h1, F, h2, rfl⟩ := h
  exact ⟨es, clock, h1, F, by simp [Maps.size, length_sorted], rfl⟩

theorem MapP.made (w : World) (P : Program) (K : TypeId) : MapP P K (w.alloc (.map #[] 0)) w.heap.size [] :=
  ⟨.map [], World.ownsMap_made w P K rawR, rfl, fun _ _ _ _ => rfl, fun _ _ _ _ => rfl⟩
theorem MapP.lt (h : MapP P K w b S) : b < w.heap.size := by
  obtain ⟨D, h1, _⟩ := h.has
  exact h1.lt
theorem MapP.block (h : MapP P K w b S) (hb : w'.heap[b]? = w.heap[b]?) : MapP P K w' b S := by
  obtain ⟨D, ⟨es, clock, h1, h2⟩, h3⟩ := h.has
  exact ⟨D, ⟨es, clock, hb.trans h1, h2⟩, h3⟩
theorem MapP.below (h : MapP P K w b S) (hb : Below w.heap.size w w') : MapP P K w' b S := h.block (hb.block b h.lt)
theorem MapP.isMap (h : MapP P K w b S) : ∃ es clock, w.heap[b]? = some (.map es clock) := by
  obtain ⟨D, ⟨es, clock, h1, h2⟩, h3⟩ := h.has
  exact ⟨es, clock, h1⟩
variable {ops : Array Oper} {rest : List Oper} {o : Oper} {a : Act} {Q : Exit → Act → World → Prop}
/-- 'm[p]' -/
theorem wpList_mapP_get (hkp : KeyP P K) (hw' : Region.wanted o (yielded ops a.tmps) = true) (m x : Operand) (t : TypeId) (hop : o.op = Op.lookup t m x false) (e : TypeId) (ht : P.underlying t = some (.map K e))
    (hz : (zeroValue e).run P w = .ok (.bool false) w) (hm : a.eval m = .map (some b)) (h : MapP P K w b S) {p : Nat × Nat} (hx : a.eval x = pv p) (hp : pOk p)
    (hK : wpList P ops Q rest (a.put o.dst (.bool (decide (p ∈ S)))) w) : wpList P ops Q (o :: rest) a w := by
  obtain ⟨D, h1, h2, h3, h4⟩ := h.has
  obtain ⟨l, hl⟩ := hkp.key p hp
  obtain ⟨v, ps, hrun, hv⟩ := h1.lookup hkp.keyed ht hz (zd := .held (.bool false)) (zp := []) rfl hl
  simp only [rawR, Option.some.injEq, Prod.mk.injEq] at hv
  have hv1 := hv.1
  rw [h4 p l hp hl] at hv1
  injection hv1 with hv1
  subst hv1
  refine wpList_run (Φ := fun v' w' => v' = .bool (decide (p ∈ S)) ∧ w' = w) hw' ⟨_, w, ?_, rfl, rfl⟩ ?_
  · simp [execOp, hop, hm, hx, hrun, Result.andThen]
  · rintro v' w2 ⟨rfl, rfl⟩
    exact hK
theorem run_mapP_put (hkp : KeyP P K) {t : TypeId} (e : TypeId) (ht : P.underlying t = some (.map K e))
    (h : MapP P K w b S) (hn : S.length < 1000000000) {p : Nat × Nat} (hp : pOk p) (hnew : p ∉ S) : ∃ w', (Instr.mapUpdate t (.map (some b)) (pv p) (.bool true)).run P w = .ok () w' ∧ MapP P K w' b (p :: S) ∧ w.grownBy w' (some b) := by
  obtain ⟨D, h1, h2, h3, h4⟩ := h.has
  obtain ⟨l, hl⟩ := hkp.key p hp
  obtain ⟨w', hrun, hown, hgr⟩ := h1.update hkp.keyed ht (by unfold maxLen; omega) hl (d := .held (.bool true)) (ps := []) (val := .bool true) rfl
  have hkl := hkp.keyed.key hl
  have hsz : Maps.size (D.put l (.held (.bool true))) = (p :: S).length := by
    rw [size_put (h1.tidy hkp.keyed), h3 p l hp hl, h2]
    simp [hnew]
  have hne : ∀ q l', pOk q → keyOf P K (pv q) = some l' → q ≠ p → l' ≠ l := by
    intro q l' hq hl' hqp e
    subst e
    exact hqp (pv_inj (hkp.keyed.inj hl' hl))
  refine ⟨w', hrun, ⟨⟨D.put l (.held (.bool true)), ?_, hsz, ?_, ?_⟩⟩, hgr⟩
  · have := own_size hown
    rwa [hsz] at this
  · intro q l' hq hl'
    by_cases e : q = p
    · subst e
      obtain rfl : l = l' := by rw [hl] at hl'; injection hl'
      rw [has_put_same h1.isMap hkl]; simp
    · rw [has_put_other (hne q l' hq hl' e), h3 q l' hq hl']; simp [e]
  · intro q l' hq hl'
    by_cases e : q = p
    · subst e
      obtain rfl : l = l' := by rw [hl] at hl'; injection hl'
      rw [atKey_put_same h1.isMap hkl]; simp
    · rw [atKey_put_other (hne q l' hq hl' e), h4 q l' hq hl']; simp [e]
/-- 'm[p] = true' -/
theorem wpList_mapP_put (hkp : KeyP P K) (hw' : Region.wanted o (yielded ops a.tmps) = true) (m x y : Operand) (t : TypeId) (hop : o.op = Op.mapUpdate t m x y) (e : TypeId) (ht : P.underlying t = some (.map K e))
    (hm : a.eval m = .map (some b)) (h : MapP P K w b S) (hn : S.length < 1000000000) {p : Nat × Nat} (hx : a.eval x = pv p) (hy : a.eval y = .bool true) (hp : pOk p) (hnew : p ∉ S)
    (hK : ∀ w', MapP P K w' b (p :: S) → w.grownBy w' (some b) → wpList P ops Q rest (a.put o.dst undef) w') : wpList P ops Q (o :: rest) a w := by
  obtain ⟨w', hrun, r1, r2⟩ := run_mapP_put hkp e ht h hn hp hnew
  refine wpList_step fun K hK' => ?_
  rw [if_pos hw']
  unfold Oper.wp
  simp [execOp, hop, hm, hx, hy, hrun, Result.andThen]
  exact hK' _ _ (hK w' r1 r2)
end
theorem size_succ {n k : Nat} (h : k < n) : ∃ m, n = m + 1 := ⟨n - 1, by omega⟩
theorem arrPair : Go.WideMaps.ArrKey Try.prog 89 3 2 := ⟨Try.underlying89, by kernel_rfl, by kernel_rfl, by kernel_rfl⟩
theorem keyPair : KeyP Try.prog 89 where
  keyed := Keyed.of_law arrPair.law
  key := by
    intro p hp
    have hr : (89 : TypeId) < Try.prog.types.size := of_decide_eq_true (by kernel_rfl)
    have hsz := size_succ hr
    exact ⟨_, Go.WideMaps.keyOf_pair arrPair Try.underlying3 hsz (i64_wf (by unfold i64; have := hp.1; omega)) (i64_wf (by unfold i64; have := hp.2; omega))⟩
end Go.Proofs.Ytlndjooddkjnoaa

/- Pairs of places compared. -/
namespace Go.Proofs.Ytlndjooddkjnoaa
open Go.RowKit

set_option maxRecDepth 100000 in
theorem eqP (a b c d : Int) (w : World) : (binOp .eql 89 (.agg #[.int .i64 a, .int .i64 b]) (.agg #[.int .i64 c, .int .i64 d])).run Try.prog w = .ok (.bool (decide (a = c ∧ b = d))) w := by
  obtain ⟨i, hi⟩ : ∃ i, Try.prog.info? 3 = some i := Option.isSome_iff_exists.1 (by kernel_rfl)
  have hc : Try.prog.cellsOf 3 = 1 := by kernel_rfl
  have h : (Op.equalIn 10000 89 (.agg #[.int .i64 a, .int .i64 b]) (.agg #[.int .i64 c, .int .i64 d])).run Try.prog w = .ok (decide (a = c ∧ b = d)) w := by
    refine (Go.run_equalIn_array w 9999 #[.int .i64 a, .int .i64 b] #[.int .i64 c, .int .i64 d] Try.underlying89 hi).trans ?_
    rw [hc]
    by_cases h1 : a = c <;> by_cases h2 : b = d <;> simp [List.range_succ, Op.eqItems, h1, h2, go_sem, part]
  go_simp
end Go.Proofs.Ytlndjooddkjnoaa

/- Words of the loop of the code's Unify. -/
namespace Go.Proofs.Ytlndjooddkjnoaa
open Go.RowKit

def pairsV (R : List (Nat × Nat)) : List Value := R.flatMap fun p => [.int .i64 (p.1 : Int), .int .i64 (p.2 : Int)]
theorem pairsV_len (R : List (Nat × Nat)) : (pairsV R).length = R.length * 2 := by
  induction R with
  | nil => rfl
  | cons p R ih => simp only [pairsV, List.flatMap_cons, List.length_append, List.length_cons, List.length_nil] at ih ⊢; omega
theorem pairsV_append (R R' : List (Nat × Nat)) : pairsV (R ++ R') = pairsV R ++ pairsV R' := by simp [pairsV]
theorem pairsV_last (R : List (Nat × Nat)) (a b : Nat) : (pairsV (R ++ [(a, b)]))[R.length * 2]? = some (.int .i64 (a : Int)) ∧ (pairsV (R ++ [(a, b)]))[R.length * 2 + 1]? = some (.int .i64 (b : Int)) := by
  rw [pairsV_append]
  have := pairsV_len R
  constructor
  · rw [List.getElem?_append_right (by omega), this]; simp [pairsV]
  · rw [List.getElem?_append_right (by omega), this]; simp [pairsV]
theorem pairsV_take (R : List (Nat × Nat)) (p : Nat × Nat) : (pairsV (R ++ [p])).take (R.length * 2) = pairsV R := by
  rw [pairsV_append, List.take_append_of_le_length (by rw [pairsV_len]; exact Nat.le_refl _), List.take_of_length_le (by rw [pairsV_len]; exact Nat.le_refl _)]
theorem infoPair : (Try.prog.info? 89).map (fun i => (i.zero, i.size, i.bytes)) = some (some (.agg #[.int .i64 0, .int .i64 0]), 2, 16) := by kernel_rfl
def RetUni (w : World) (A B : Option Addr) (n c m d : Nat) (r : Int) (o : Option (List C × List Int)) (e : Ending) (w' : World) : Prop := Below w.heap.size w w' ∧ match o with
  | some u => ∃ A' n' c' B' m' d', e = .returned (.tuple #[.agg #[.slice A' n' c', .slice B' m' d', .int .i64 r], .bool true]) ∧ IsC w' A' n' c' u.1 ∧ IsI w' B' m' d' u.2 ∧ ∀ x, B' = some x → w.heap.size ≤ x.block
  | none => e = .returned (.tuple #[.agg #[.slice A n c, .slice B m d, .int .i64 r], .bool false])
abbrev Oz : Obj := .cells #[.slice none 0 0, .slice none 0 0, .int .i64 0] 25
/-- the heap that is given, and the result's cells -/
structure Pre3 (w Y : World) (A B : Option Addr) (n c m d : Nat) (r : Int) : Prop where
  low : Below w.heap.size w Y
  x0 : Y.heap[w.heap.size]? = some (.cells #[.slice A n c, .slice B m d, .int .i64 r] 25 (0, 0))
  x1 : Y.heap[w.heap.size + 1]? = some (.cells #[.slice none 0 0, .slice none 0 0, .int .i64 0] 25 (0, 0))
  size : w.heap.size + 2 ≤ Y.heap.size
theorem Pre3.below {w Y Y' : World} {A B : Option Addr} {n c m d : Nat} {r : Int} (h : Pre3 w Y A B n c m d r) (hb : Below Y.heap.size Y Y') : Pre3 w Y' A B n c m d r :=
  ⟨h.low.trans (hb.mono h.low.size), (hb.block _ (block_lt h.x0)).trans h.x0, (hb.block _ (block_lt h.x1)).trans h.x1, Nat.le_trans h.size hb.size⟩
theorem Pre3.above {w Y Y' : World} {A B : Option Addr} {n c m d : Nat} {r : Int} (h : Pre3 w Y A B n c m d r) (hb : Below (w.heap.size + 2) Y Y') : Pre3 w Y' A B n c m d r :=
  ⟨h.low.trans (hb.mono (by omega)), (hb.block _ (by omega)).trans h.x0, (hb.block _ (by omega)).trans h.x1, Nat.le_trans h.size hb.size⟩
theorem Pre3.held {w Y : World} {A B : Option Addr} {n c m d : Nat} {r : Int} (h : Pre3 w Y A B n c m d r) : Y.cell? ⟨w.heap.size, 0, none⟩ = some (.slice A n c) ∧ Y.cell? ⟨w.heap.size, 1, none⟩ = some (.slice B m d) ∧ Y.cell? ⟨w.heap.size, 2, none⟩ = some (.int .i64 r) := by
  obtain ⟨y0, y1, y2, _⟩ := open3 h.x0
  exact ⟨y0, y1, y2⟩
theorem Gu.made {Y : World} {base gb : Nat} {l : List C} {tr : List Int} {r : Int} {A1 D1 : Option Addr} {n c1 m d1 : Nat} (hz : Y.heap[gb]? = some (.cells #[.slice none 0 0, .slice none 0 0, .int .i64 0] 25 (0, 0))) (hgb : base ≤ gb)
    (o1 : Y.ownsRow base 68 3 (.slice A1 n c1) n (flatC l)) (o2 : Y.ownsRow base 3 1 (.slice D1 m d1) m (tr.map (Value.int .i64))) (wfc : ∀ c ∈ l, c.wf) (wfi : ∀ x ∈ tr, i64 x) :
    Gu (((Y.setCell ⟨gb, 0, none⟩ (.slice A1 n c1)).setCell ⟨gb, 1, none⟩ (.slice D1 m d1)).setCell ⟨gb, 2, none⟩ (.int .i64 r)) base gb l tr r ∧ Below base Y (((Y.setCell ⟨gb, 0, none⟩ (.slice A1 n c1)).setCell ⟨gb, 1, none⟩ (.slice D1 m d1)).setCell ⟨gb, 2, none⟩ (.int .i64 r)) := by
  have h1 := set_block (k := 0) hz (.slice A1 n c1)
  have h2 := set_block (k := 1) h1 (.slice D1 m d1)
  have h3 := set_block (k := 2) h2 (.int .i64 r)
  simp at h3
  have ho : ∀ g, g ≠ gb → (((Y.setCell ⟨gb, 0, none⟩ (.slice A1 n c1)).setCell ⟨gb, 1, none⟩ (.slice D1 m d1)).setCell ⟨gb, 2, none⟩ (.int .i64 r)).heap[g]? = Y.heap[g]? := fun g hg => (set_other hg _).trans ((set_other hg _).trans (set_other hg _))
  refine ⟨⟨⟨A1, n, c1, D1, m, d1, hgb, h3, ?_, ?_⟩, wfc, wfi⟩, (((Below.refl base Y).setCell hgb _).setCell hgb _).setCell hgb _⟩
  · exact own_at o1 (fun a ha => ho _ (own_ne o1 hz (by intro cur he; injection he with f1 f2 f3; exact heap_ne.1 f2) a ha))
  · exact own_at o2 (fun a ha => ho _ (own_ne o2 hz (by intro cur he; injection he with f1 f2 f3; exact heap_ne.2.1 f2) a ha))
/-- what holds in each round -/
structure UInv (w wr : World) (gb mb : Nat) (A B : Option Addr) (n c m d : Nat) (r : Int) (U : Option (List C × List Int)) (s : US) (R : List (Nat × Nat)) (Ar : Option Addr) (m2 c2 kk : Nat) : Prop where
  gu : Gu wr (w.heap.size + 2) gb s.l s.tr r
  map : MapP Try.prog 89 wr mb s.seen
  row : wr.ownsRow (w.heap.size + 2) 89 2 (.slice Ar m2 c2) m2 (pairsV R)
  ok : UOk s
  rev : R.reverse = s.row
  len : s.l.length = n
  run : ∃ k, s.mu < k ∧ (uRun k s).map (fun s => (s.l, s.tr)) = U
  mu : s.mu ≤ kk
  top : s.mu ≤ 7 * (n * n) + 1
  pre : Pre3 w wr A B n c m d r
theorem UInv.below {w wr X : World} {gb mb : Nat} {A B : Option Addr} {n c m d : Nat} {r : Int} {U : Option (List C × List Int)} {s : US} {R : List (Nat × Nat)} {Ar : Option Addr} {m2 c2 kk : Nat} (h : UInv w wr gb mb A B n c m d r U s R Ar m2 c2 kk) (hb : Below wr.heap.size wr X) : UInv w X gb mb A B n c m d r U s R Ar m2 c2 kk :=
  ⟨h.gu.below hb, h.map.below hb, own_below h.row hb, h.ok, h.rev, h.len, h.run, h.mu, h.top, h.pre.below hb⟩
theorem UInv.pop {w wr : World} {gb mb : Nat} {A B : Option Addr} {n c m d : Nat} {r : Int} {U : Option (List C × List Int)} {s s' : US} {R : List (Nat × Nat)} {p : Nat × Nat} {Ar : Option Addr} {k c2 kk : Nat} (h : UInv w wr gb mb A B n c m d r U s (R ++ [p]) Ar (k + 1) c2 kk)
    (hl : s'.l = s.l) (ht : s'.tr = s.tr) (hs : s'.seen = s.seen) (hrow : s'.row = R.reverse) (hok : UOk s') (hmu : s'.mu < s.mu) (hrun : ∃ j, s.mu < j + 1 ∧ (uRun j s').map (fun s => (s.l, s.tr)) = U) : UInv w wr gb mb A B n c m d r U s' R Ar k c2 s'.mu := by
  have hlen := h.row.1
  rw [pairsV_len] at hlen
  simp only [List.length_append, List.length_cons, List.length_nil] at hlen
  have hk : R.length = k := by omega
  obtain ⟨j, hj, hr⟩ := hrun
  refine ⟨by rw [hl, ht]; exact h.gu, by rw [hs]; exact h.map, ?_, hok, hrow.symm, by rw [hl]; exact h.len, ⟨j, by omega, hr⟩, Nat.le_refl _, by have := h.top; omega, h.pre⟩
  have := own_cut h.row (m := k) (by omega)
  rw [← hk, pairsV_take] at this
  rw [← hk]
  exact this
theorem zeroB (w : World) : (zeroValue 4).run Try.prog w = .ok (.bool false) w := by kernel_rfl

theorem TrOk.len {l : List C} {tr : List Int} (h : TrOk l tr) : tr.length ≤ l.length := by
  have h1 : (tr.map Int.toNat).length ≤ l.length := by
    refine nodup_le _ _ ?_ ?_
    · have h2 := h.nd
      have h3 : ∀ t ∈ tr, 0 ≤ t := fun t ht => by obtain ⟨p, rfl, _⟩ := h.at_ t ht; omega
      clear h
      induction tr with
      | nil => simp
      | cons a tr ih =>
        rw [List.nodup_cons] at h2
        rw [List.map_cons, List.nodup_cons]
        refine ⟨fun hm => ?_, ih h2.2 (fun t ht => h3 t (by simp [ht]))⟩
        obtain ⟨b, hb, he⟩ := List.mem_map.1 hm
        have e1 := h3 a (by simp)
        have e2 := h3 b (by simp [hb])
        have : b = a := by omega
        subst this
        exact h2.1 hb
    · intro x hx
      obtain ⟨t, ht, rfl⟩ := List.mem_map.1 hx
      obtain ⟨p, rfl, hp, _⟩ := h.at_ t ht
      simpa using hp
  simpa using h1
theorem UInv.cut {w wr : World} {gb mb : Nat} {A B : Option Addr} {n c m d : Nat} {r : Int} {U : Option (List C × List Int)} {s : US} {R : List (Nat × Nat)} {p : Nat × Nat} {Ar : Option Addr} {k c2 kk : Nat} (h : UInv w wr gb mb A B n c m d r U s (R ++ [p]) Ar (k + 1) c2 kk) :
    wr.ownsRow (w.heap.size + 2) 89 2 (.slice Ar k c2) k (pairsV R) := by
  have hlen := h.row.1
  rw [pairsV_len] at hlen
  simp only [List.length_append, List.length_cons, List.length_nil] at hlen
  have hk : R.length = k := by omega
  have := own_cut h.row (m := k) (by omega)
  rw [← hk, pairsV_take] at this
  rw [← hk]
  exact this
theorem pair_ne : 89 ≠ 68 ∧ 89 ≠ 3 ∧ 89 ≠ 25 := by decide
/-- a variable bound -/
theorem UInv.bound {w wr X : World} {gb mb : Nat} {A B : Option Addr} {n c m d : Nat} {r : Int} {U : Option (List C × List Int)} {s : US} {R : List (Nat × Nat)} {p : Nat × Nat} {Ar : Option Addr} {k c2 kk x y : Nat} (h : UInv w wr gb mb A B n c m d r U s (R ++ [p]) Ar (k + 1) c2 kk) (hc : 0 < c2)
    (hg : Gu X (w.heap.size + 2) gb (bnd s.l x y) (s.tr ++ [(x : Int)]) r) (hb : Below (w.heap.size + 2) wr X) (hk : GKept wr X gb) (hok : UOk (s.bound R.reverse x y)) (hmu : (s.bound R.reverse x y).mu < s.mu) (hrun : ∃ j, s.mu < j + 1 ∧ (uRun j (s.bound R.reverse x y)).map (fun s => (s.l, s.tr)) = U) :
    UInv w X gb mb A B n c m d r U (s.bound R.reverse x y) R Ar k c2 (s.bound R.reverse x y).mu := by
  obtain ⟨j, hj, hr⟩ := hrun
  refine ⟨hg, ?_, ?_, hok, rfl, by simp only [US.bound, bnd_len]; exact h.len, ⟨j, by omega, hr⟩, Nat.le_refl _, by have := h.top; omega, h.pre.above hb⟩
  · obtain ⟨es, clock, hm⟩ := h.map.isMap
    exact h.map.block ((hk.map mb es clock hm).trans hm.symm)
  · refine own_at h.cut (fun a ha => ?_)
    obtain ⟨_, cur, hcur⟩ := own0_typ (.inr h.cut) hc a ha
    obtain ⟨A5, n5, c5, B5, m5, d5, p1, p2, p3, p4⟩ := h.gu.has
    exact (hk.cells _ _ _ pair_ne.1 pair_ne.2.1 (own_ne h.cut p2 (by intro cur he; injection he with f1 f2 f3; exact pair_ne.2.2 f2.symm) a ha) hcur).trans hcur.symm
/-- the heap, the map and what was given, but for the row -/
structure UHp (w wr : World) (gb mb : Nat) (A B : Option Addr) (n c m d : Nat) (r : Int) (l : List C) (tr : List Int) (seen : List (Nat × Nat)) : Prop where
  gu : Gu wr (w.heap.size + 2) gb l tr r
  map : MapP Try.prog 89 wr mb seen
  pre : Pre3 w wr A B n c m d r
theorem UInv.hp {w wr : World} {gb mb : Nat} {A B : Option Addr} {n c m d : Nat} {r : Int} {U : Option (List C × List Int)} {s : US} {R : List (Nat × Nat)} {Ar : Option Addr} {m2 c2 kk : Nat} (h : UInv w wr gb mb A B n c m d r U s R Ar m2 c2 kk) : UHp w wr gb mb A B n c m d r s.l s.tr s.seen := ⟨h.gu, h.map, h.pre⟩
theorem UHp.below {w wr X : World} {gb mb : Nat} {A B : Option Addr} {n c m d : Nat} {r : Int} {l : List C} {tr : List Int} {seen : List (Nat × Nat)} (h : UHp w wr gb mb A B n c m d r l tr seen) (hb : Below wr.heap.size wr X) : UHp w X gb mb A B n c m d r l tr seen := ⟨h.gu.below hb, h.map.below hb, h.pre.below hb⟩
theorem Gu.other {w w' : World} {base gb g9 : Nat} {l : List C} {tr : List Int} {r : Int} {o : Obj} (h : Gu w base gb l tr r) (ho : w.heap[g9]? = some o) (hn : ∀ cs t x, o = .cells cs t x → t ≠ 25 ∧ t ≠ 68 ∧ t ≠ 3) (hk : ∀ g, g < w.heap.size → g ≠ g9 → w'.heap[g]? = w.heap[g]?) : Gu w' base gb l tr r := by
  obtain ⟨A, n, c, B, m, d, h1, h2, h3, h4⟩ := h.has
  refine ⟨⟨A, n, c, B, m, d, h1, (hk gb (block_lt h2) ?_).trans h2, own_at h3 (fun a ha => hk _ (Own0.lt h3 a ha).2 (own_ne h3 ho (fun cur he => (hn _ _ _ he).2.1 rfl) a ha)), own_at h4 (fun a ha => hk _ (Own0.lt h4 a ha).2 (own_ne h4 ho (fun cur he => (hn _ _ _ he).2.2 rfl) a ha))⟩, h.wfc, h.wfi⟩
  rintro rfl
  rw [h2] at ho
  injection ho with ho
  exact (hn _ _ _ ho.symm).1 rfl
/-- a pair is asked for -/
theorem UHp.asked {w wr X : World} {gb mb : Nat} {A B : Option Addr} {n c m d : Nat} {r : Int} {l : List C} {tr : List Int} {seen seen' : List (Nat × Nat)} (h : UHp w wr gb mb A B n c m d r l tr seen) (hm : MapP Try.prog 89 X mb seen') (hg : wr.grownBy X (some mb)) (hmb : w.heap.size + 2 ≤ mb) : UHp w X gb mb A B n c m d r l tr seen' := by
  obtain ⟨es, clock, hmm⟩ := h.map.isMap
  exact ⟨h.gu.other hmm (by intro _ _ _ he; cases he) (fun g hlt hne => hg.block g hlt (by simp; omega)), hm, h.pre.above ((Below.refl _ wr).grown hg h.pre.size (fun q hq => by injection hq with hq; omega))⟩
/-- a pair is laid upon the row -/
theorem UHp.laid {w wr X : World} {gb mb : Nat} {A B : Option Addr} {n c m d : Nat} {r : Int} {l : List C} {tr : List Int} {seen : List (Nat × Nat)} {Ar : Option Addr} {m2 c2 : Nat} {xs : List Value} (h : UHp w wr gb mb A B n c m d r l tr seen) (hown : wr.ownsRow (w.heap.size + 2) 89 2 (.slice Ar m2 c2) m2 xs) (hc : 0 < c2) (hA : Ar ≠ none) (hg : wr.grownBy X (Value.slice Ar m2 c2).ownBlock) (hb : Below (w.heap.size + 2) wr X) : UHp w X gb mb A B n c m d r l tr seen := by
  obtain ⟨a, rfl⟩ : ∃ a, Ar = some a := by
    cases Ar with
    | none => exact absurd rfl hA
    | some a => exact ⟨a, rfl⟩
  obtain ⟨_, cur, hcur⟩ := own0_typ (.inr hown) hc a rfl
  refine ⟨h.gu.other hcur (by intro cs t x he; injection he with f1 f2 f3; subst f2; exact ⟨pair_ne.2.2, pair_ne.1, pair_ne.2.1⟩) (fun g hlt hne => grown_block hg hlt (fun a' ha' => by cases ha'; exact fun e => hne e.symm)), ?_, h.pre.above hb⟩
  obtain ⟨es, clock, hmm⟩ := h.map.isMap
  refine h.map.block (grown_block hg h.map.lt (fun a' ha' => ?_))
  cases ha'
  rintro rfl
  rw [hcur] at hmm
  cases hmm
/-- the pairs of two structures' arguments, the last one first -/
def pairsRev (x y : Nat) : Nat → List (Nat × Nat)
  | 0 => []
  | n + 1 => (x + (n + 1), y + (n + 1)) :: pairsRev x y n
theorem pairs_rev (x y : Nat) : ∀ n, (pairsRev x y n).reverse = (List.range n).map (fun i => (x + 1 + i, y + 1 + i))
  | 0 => rfl
  | n + 1 => by
    rw [pairsRev, List.reverse_cons, pairs_rev x y n, List.range_succ, List.map_append]
    simp; omega
theorem pairsRev_len (x y : Nat) : ∀ n, (pairsRev x y n).length = n
  | 0 => rfl
  | n + 1 => by rw [pairsRev, List.length_cons, pairsRev_len x y n]
theorem cell_map {w : World} {b i : Nat} {es : _} {k : _} (h : w.heap[b]? = some (.map es k)) : w.cell? ⟨b, i, none⟩ = none := by simp [World.cell?, h]
theorem map_cell {w w' : World} {mb g i : Nat} {v : Value} {S : List (Nat × Nat)} (hm : MapP Try.prog 89 w mb S) (hg : w.grownBy w' (some mb)) (hl : g < w.heap.size) (hc : w.cell? ⟨g, i, none⟩ = some v) : w'.cell? ⟨g, i, none⟩ = some v := by
  obtain ⟨es, k, hh⟩ := hm.isMap
  have hne : g ≠ mb := by
    rintro rfl
    rw [cell_map hh] at hc
    cases hc
  exact (World.cell?_of_block (a := ⟨g, i, none⟩) (hg.block g hl (by simp; omega))).trans hc
theorem pairsV_snoc (R : List (Nat × Nat)) (a b : Nat) : pairsV (R ++ [(a, b)]) = pairsV R ++ [.int .i64 (a : Int), .int .i64 (b : Int)] := by rw [pairsV_append]; rfl
theorem one2 (a b : Int) : ∀ u ∈ [Value.int .i64 a, Value.int .i64 b], u.oneCell' = true := by
  intro u hu
  simp at hu
  rcases hu with rfl | rfl <;> rfl
theorem UInv.next {w wr X : World} {gb mb : Nat} {A B : Option Addr} {n c m d : Nat} {r : Int} {U : Option (List C × List Int)} {s s' : US} {R R2 : List (Nat × Nat)} {Ar Ar2 : Option Addr} {m2 c2 m3 c3 kk : Nat} (h : UInv w wr gb mb A B n c m d r U s R Ar m2 c2 kk) (hu : UHp w X gb mb A B n c m d r s'.l s'.tr s'.seen)
    (hrow : X.ownsRow (w.heap.size + 2) 89 2 (.slice Ar2 m3 c3) m3 (pairsV R2)) (hrev : R2.reverse = s'.row) (hok : UOk s') (hlen : s'.l.length = n) (hmu : s'.mu < s.mu) (hrun : ∃ j, s.mu < j + 1 ∧ (uRun j s').map (fun s => (s.l, s.tr)) = U) : UInv w X gb mb A B n c m d r U s' R2 Ar2 m3 c3 s'.mu := by
  obtain ⟨j, hj, hr⟩ := hrun
  exact ⟨hu.gu, hu.map, hrow, hok, hrev, hlen, ⟨j, by omega, hr⟩, Nat.le_refl _, by have := h.top; omega, hu.pre⟩
end Go.Proofs.Ytlndjooddkjnoaa
