/- The walks of the maker's small methods: an instruction more, a new register, a variable's register. -/
import Derived.Deep.RegionLaw
import Derived.Deep.RegionHeld3
import Derived.Test.YtdeaeiolehglaaaAppT
import Derived.Test.YtdeaeiolehglaaaMaps
import Derived.Test.YtdeaeiolehglaaaVoc10
set_option linter.unusedVariables false
set_option linter.unusedSimpArgs false
namespace Go.Proofs.Ytdeaeiolehglaaa
open Go.RowKit

theorem infoIn : (Try.prog.info? 48).map (fun i => (i.zero, i.size, i.bytes)) = some (some (.agg #[.int .i64 0, .int .i64 0, .int .i64 0, .string ⟨#[]⟩, .int .i64 0, .bool false]), 6, 56) := by kernel_rfl

theorem reg_find (v : Int) : ∀ (vars regs : List Int) (k : Nat), regs.length = vars.length →
    (look (List.zipWith (fun v r => (v, Value.int .i64 r)) vars regs) v = none ∧ idxF (fun y => y == v) k vars = -1) ∨
    ∃ (j : Nat) (r : Int), idxF (fun y => y == v) k vars = (k : Int) + j ∧ regs[j]? = some r ∧ look (List.zipWith (fun v r => (v, Value.int .i64 r)) vars regs) v = some (.int .i64 r)
  | [], [], k, _ => .inl ⟨rfl, rfl⟩
  | x :: vars, [], k, h => by simp at h
  | [], r :: regs, k, h => by simp at h
  | x :: vars, r :: regs, k, h => by
    by_cases hx : x = v
    · subst hx
      exact .inr ⟨0, r, by simp [idxF], rfl, by simp [look]⟩
    · rcases reg_find v vars regs (k + 1) (by simpa using h) with ⟨h1, h2⟩ | ⟨j, r', h1, h2, h3⟩
      · exact .inl ⟨by simp [look, hx, h1], by simp [idxF, hx, h2]⟩
      · exact .inr ⟨j + 1, r', by simp [idxF, hx, h1]; omega, by simpa using h2, by simp [look, hx, h3]⟩
def prs (s : St) : List (Int × Value) := List.zipWith (fun v r => (v, Value.int .i64 r)) s.vars s.regs
theorem reg_cases (s : St) (v : Int) (h : s.regs.length = s.vars.length) :
    (look (prs s) v = none ∧ regF s v = (s.bump.addv v s.next, (s.next : Int), true)) ∨
    ∃ r, r ∈ s.regs ∧ look (prs s) v = some (.int .i64 r) ∧ regF s v = (s, r, false) := by
  rcases reg_find v s.vars s.regs 0 h with ⟨h1, h2⟩ | ⟨j, r, h1, h2, h3⟩
  · refine .inl ⟨h1, ?_⟩
    have h0 : decide (0 ≤ placeI s.vars v) = false := by rw [placeI, h2]; rfl
    unfold regF
    rw [h0]
    cases s.regs[(placeI s.vars v).toNat]? <;> rfl
  · refine .inr ⟨r, List.mem_of_getElem? h2, h3, ?_⟩
    have h0 : placeI s.vars v = j := by rw [placeI, h1]; omega
    unfold regF
    rw [h0]
    simp [h2]
/-- the maker in block bm: its code is its own row, its registers its own map -/
structure Mk (w : World) (base bm bq : Nat) (s : St) : Prop where
  has : ∃ A n cap, base ≤ bm ∧ base ≤ bq ∧ w.heap[bm]? = some (.cells #[.slice A n cap, .int .i64 s.next, .map (some bq)] 63 (0, 0)) ∧ OwnG RIn 6 w base 48 (.slice A n cap) n s.code ∧ MapI Try.prog 3 w bq (prs s)
  fit : s.fit 100000
theorem cells_of {w : World} {b : Nat} {cs : Array Value} {t : TypeId} (h : w.heap[b]? = some (.cells cs t (0, 0))) (k : Nat) : w.cell? ⟨b, k, none⟩ = cs[k]? := cell_of_row w b k cs t (0, 0) h
theorem block_lt {w : World} {b : Nat} {x : Obj} (h : w.heap[b]? = some x) : b < w.heap.size := (Array.getElem?_eq_some_iff.1 h).1

/-- the block of the maker's code -/
def vblk : Option Value → Option Nat
  | some (Value.slice (some a) _ _) => some a.block
  | _ => none
def cblk (w : World) (bm : Nat) : Option Nat := match w.heap[bm]? with
  | some (Obj.cells cs _ _) => vblk cs[0]?
  | _ => none
/-- a block that is none of the maker's -/
structure Free (w : World) (bm bq g : Nat) : Prop where
  lt : g < w.heap.size
  m : g ≠ bm
  q : g ≠ bq
  c : cblk w bm ≠ some g
/-- what is none of the maker's is as it was -/
structure Kept (w w' : World) (bm bq : Nat) : Prop where
  free : ∀ g, Free w bm bq g → w'.heap[g]? = w.heap[g]? ∧ Free w' bm bq g
theorem Kept.trans {w w' w'' : World} {bm bq : Nat} (h : Kept w w' bm bq) (h' : Kept w' w'' bm bq) : Kept w w'' bm bq := ⟨fun g hg => by
  obtain ⟨h1, h2⟩ := h.free g hg
  obtain ⟨h3, h4⟩ := h'.free g h2
  exact ⟨h3.trans h1, h4⟩⟩
theorem Kept.refl (w : World) (bm bq : Nat) : Kept w w bm bq := ⟨fun g hg => ⟨rfl, hg⟩⟩
theorem cblk_same {w w' : World} {bm : Nat} (h : w'.heap[bm]? = w.heap[bm]?) : cblk w' bm = cblk w bm := by unfold cblk; rw [h]
theorem cblk_of {w : World} {bm : Nat} {A : Option Addr} {n cap : Nat} {x y : Value} {t : TypeId} (h : w.heap[bm]? = some (.cells #[.slice A n cap, x, y] t (0, 0))) : cblk w bm = A.map (·.block) := by
  unfold cblk
  rw [h]
  cases A <;> rfl
/-- whatever leaves all old blocks as they were -/
theorem Kept.below {w w' : World} {bm bq : Nat} (hb : Below w.heap.size w w') (hm : bm < w.heap.size) : Kept w w' bm bq := ⟨fun g hg =>
  ⟨hb.block g hg.lt, ⟨Nat.lt_of_lt_of_le hg.lt hb.size, hg.m, hg.q, by rw [cblk_same (hb.block bm hm)]; exact hg.c⟩⟩⟩
/-- a method that hands back nothing, and leaves the maker so -/
def RetMk (w : World) (base bm bq : Nat) (s : St) (e : Ending) (w' : World) : Prop := e = .returned (.tuple #[]) ∧ Mk w' base bm bq s ∧ Below base w w' ∧ Kept w w' bm bq
/-- .. and hands back v -/
def RetMkV (w : World) (base bm bq : Nat) (s : St) (v : Value) (e : Ending) (w' : World) : Prop := e = .returned v ∧ Mk w' base bm bq s ∧ Below base w w' ∧ Kept w w' bm bq
theorem alloc_at {w : World} {g : Nat} {o : Obj} (hg : w.heap.size = g) : (w.alloc o).heap[g]? = some o := by rw [← hg]; exact heap_alloc_new w o
theorem alloc_past {w : World} {g : Nat} {o : Obj} (hg : g < w.heap.size) : (w.alloc o).heap[g]? = w.heap[g]? := heap_alloc_old w o hg
theorem Sl.blk {w : World} {g size n : Nat} {cs : Array Value} {t : TypeId} (h : w.heap[g]? = some (.cells cs t (0, 0))) (hl : cs.size = n * size) (hn : n ≤ maxLen) : Sl w size (some ⟨g, 0, none⟩) n n cs.toList :=
  ⟨by simpa using hl, Nat.le_refl _, hn, fun _ => ⟨g, 0, rfl, block_lt h, fun j u hu => by rw [Nat.zero_add, cells_of h, ← Array.getElem?_toList]; exact hu⟩⟩
theorem frozen_of {w : World} {b : Nat} {cs : Array Value} {t : TypeId} (h : w.heap[b]? = some (.cells cs t (0, 0))) (k : Nat) : w.frozen? ⟨b, k, none⟩ = false := by simp [World.frozen?, h]
theorem set_block {w : World} {b k : Nat} {cs : Array Value} {t : TypeId} (h : w.heap[b]? = some (.cells cs t (0, 0))) (v : Value) : (w.setCell ⟨b, k, none⟩ v).heap[b]? = some (.cells (cs.setIfInBounds k v) t (0, 0)) := by
  simp [World.setCell, Array.getElem?_modify, h]
theorem set_other {w : World} {b k g : Nat} (hne : g ≠ b) (v : Value) : (w.setCell ⟨b, k, none⟩ v).heap[g]? = w.heap[g]? := RowKit.Below.heap_setCell _ _ _ _ hne
theorem own_ne {w : World} {base size n cap g : Nat} {e : TypeId} {A : Option Addr} {xs : List Value} {x : Obj} (h : w.ownsRow base e size (.slice A n cap) n xs) (hx : w.heap[g]? = some x) (hne : ∀ cur, x ≠ .cells cur e (0, 0)) : ∀ a, A = some a → a.block ≠ g := by
  intro a ha hg
  rcases h.2 with ⟨h1, _⟩ | ⟨g', cap', cur, h1, _, h2, _⟩
  · injection h1 with h1; rw [ha] at h1; cases h1
  · injection h1 with h1
    rw [ha] at h1
    injection h1 with h1
    rw [h1] at hg
    simp at hg
    subst hg
    rw [hx] at h2
    injection h2 with h2
    exact hne cur h2

theorem own_at {w w' : World} {base size n cap : Nat} {e : TypeId} {A : Option Addr} {xs : List Value} (h : w.ownsRow base e size (.slice A n cap) n xs) (hk : ∀ a, A = some a → w'.heap[a.block]? = w.heap[a.block]?) : w'.ownsRow base e size (.slice A n cap) n xs := by
  refine ⟨h.1, ?_⟩
  rcases h.2 with h2 | ⟨g, cap', cur, hv, hg, hh, r⟩
  · exact .inl h2
  · refine .inr ⟨g, cap', cur, hv, hg, ?_, r⟩
    injection hv with hv
    have := hk _ hv
    simp at this
    rw [this]
    exact hh
theorem St.fit_emit {s : St} {N : Nat} {i : In} (h : s.fit N) (hi : i.wf) (hl : s.code.length < N) : (s.emit i).fit N :=
  ⟨by simp [St.emit]; omega, h.next, h.vars, h.same, fun x hx => by
    simp [St.emit] at hx
    rcases hx with hx | rfl
    · exact h.wf x hx
    · exact hi, h.rg, h.vr⟩

set_option maxRecDepth 100000 in
set_option maxHeartbeats 4000000 in
theorem mEmit_any (base bm bq : Nat) (s : St) (i : In) (w : World) (h : Mk w base bm bq s) (hi : i.wf) (hl : s.code.length < 100000) :
    Calls Try.prog 33 #[.pointer (some ⟨bm, 0, none⟩), i.val] w (RetMk w base bm bq (s.emit i)) := by
  obtain ⟨A, n, cap, hb1, hb2, hm, hcode, hmap⟩ := h.has
  have c0 := cells_of hm 0
  have c1 := cells_of hm 1
  have c2 := cells_of hm 2
  have hlt := block_lt hm
  simp at c0 c1 c2
  unfold In.val
  go_enter Try.func33, Try.ntmps33
  go_wp2
  obtain ⟨vs, v1, v2, hown, v4⟩ := hcode.rows
  have hn := hcode.len
  have hbw : base ≤ w.heap.size := by omega
  obtain ⟨w0, hw0⟩ : ∃ w0, w0 = w.alloc (.cells #[.int .i64 i.op, .int .i64 i.x, .int .i64 i.a, .string i.name, .int .i64 i.n, .bool i.neg] 48) := ⟨_, rfl⟩
  have hb : Below w.heap.size w w0 := by rw [hw0]; exact (Below.refl _ _).alloc (Nat.le_refl _) _
  have hs0 : w0.heap.size = w.heap.size + 1 := by rw [hw0]; simp
  have b0 : w0.heap[w.heap.size]? = some (.cells #[.int .i64 i.op, .int .i64 i.x, .int .i64 i.a, .string i.name, .int .i64 i.n, .bool i.neg] 48 (0, 0)) := by rw [hw0]; exact heap_alloc_new w _
  rw [← hw0]
  clear hw0
  have k0 := cells_of b0 0
  have k1 := cells_of b0 1
  have k2 := cells_of b0 2
  have k3 := cells_of b0 3
  have k4 := cells_of b0 4
  have k5 := cells_of b0 5
  simp at k0 k1 k2 k3 k4 k5
  have m0 := (hb.cell (p := ⟨bm, 0, none⟩) hlt).trans c0
  have hlt0 : bm < w0.heap.size := by omega
  have hmw := (hb.block bm hlt).trans hm
  have hqw := hmap.below hb
  have hownw := own_below hown hb
  have nbox : ∀ a, A = some a → a.block ≠ w.heap.size := fun a ha => by have := Own0.lt hown a ha; omega
  have nbm := own_ne hown hm (by intro cur he; simp at he)
  obtain ⟨es, clk, hq0⟩ := hmap.isMap
  have nbq := own_ne hown hq0 (by intro cur he; cases he)
  have hqlt := hmap.lt
  have nqb : bq ≠ bm := by rintro rfl; rw [hm] at hq0; cases hq0
  clear hq0
  have hne1 : ¬ w.heap.size = bm := by omega
  have hne2 : ¬ bm = w.heap.size := by omega
  go_region_law (first
      | (refine step_append_ap (xs := vs.flatten) (by rfl) (.tmp 8) (.tmp 10) 26 (by rfl) base 48 Try.underlying26 infoIn (by rfl) (by omega) (by rfl) (.inr (own_below hownw (by first | exact (((Below.refl _ _).alloc (Nat.le_refl _) _)).drew | exact (Below.refl _ _).drew.alloc (Nat.le_refl _) _))) (by rfl) (Sl.blk (cs := #[.int .i64 i.op, .int .i64 i.x, .int .i64 i.a, .string i.name, .int .i64 i.n, .bool i.neg]) (t := 48) (alloc_at (by first | rfl | exact hs0 | (simp; omega))) rfl (by simp [maxLen])) (oneIn i) (by omega) (by omega) (by omega) (by simp; omega) ?_; intro A1 cap1 w1 hown1 hb1' hap; (have g0 := (hap.old w.heap.size (by first | omega | (simp; omega)) nbox).trans ((alloc_past (by first | omega | (simp; omega))).trans b0)); (have gm := (hap.old bm (by first | omega | (simp; omega)) nbm).trans ((alloc_past (by first | omega | (simp; omega))).trans hmw)); (have gq := (hap.old bq (by first | omega | (simp; omega)) nbq).trans (alloc_past (by first | omega | (simp; omega)))); (have q0 := cells_of g0 0); (have q1 := cells_of g0 1); (have q2 := cells_of g0 2); (have q3 := cells_of g0 3); (have q4 := cells_of g0 4); (have q5 := cells_of g0 5); (have qm := cells_of gm 0); (have qf := frozen_of gm 0); simp at q0 q1 q2 q3 q4 q5 qm)
      | fail)
  all_goals go_end0
  all_goals
    have hA1 : ∀ a, A1 = some a → a.block ≠ bm := fun a ha => by
      rcases (hap.blk a ha).2 with ⟨a0, h0, h1⟩ | h1
      · rw [h1]; exact nbm a0 h0
      · simp at h1; omega
    have hbq : bq ≠ bm := nqb
    refine ⟨rfl, ⟨⟨A1, n + 1, cap1, hb1, hb2, ?_, ?_, ?_⟩, St.fit_emit h.fit hi hl⟩, ?_, ?_⟩
    · have := set_block (k := 0) gm (.slice A1 (n + 1) cap1)
      simp at this
      exact this
    · refine OwnG.snoc (own_at hown1 fun a ha => set_other (hA1 a ha) _) hn v1 v2 rfl (fun i x v hx hv => v4 i x v hx hv) ⟨rfl, hi⟩
    · exact (hqw.block gq).block (set_other hbq _)
    · refine Below.setCell ?_ (by simpa using hb1) _
      refine Below.trans (Below.drew (Below.alloc (hb.mono hbw) (by omega) _)) hb1'
    · refine ⟨fun g hg => ?_⟩
      have hgA : ∀ a, A = some a → a.block ≠ g := fun a ha he => hg.c (by
        rw [cblk_of hm, ha]
        simp [he])
      have hg0 : g < w0.heap.size := by have := hg.lt; omega
      have e1 := (hap.old g (by first | omega | (simp; omega)) hgA).trans ((alloc_past (by first | omega | (simp; omega))).trans (hb.block g hg.lt))
      refine ⟨(set_other hg.m _).trans e1, ⟨by have := hap.size; simp at this ⊢; omega, hg.m, hg.q, ?_⟩⟩
      have hm2 := set_block (k := 0) gm (.slice A1 (n + 1) cap1)
      simp at hm2
      rw [cblk_of hm2]
      intro hA
      cases hA1e : A1 with
      | none => rw [hA1e] at hA; cases hA
      | some a =>
        rw [hA1e] at hA
        injection hA with hA
        rcases (hap.blk a hA1e).2 with ⟨a0, h0, h1⟩ | h1
        · exact hgA a0 h0 (by rw [← h1]; exact hA)
        · have := hg.lt; simp at *; omega

theorem St.fit_bump {s : St} {N : Nat} (h : s.fit N) (hl : s.next < N) : s.bump.fit N := ⟨h.code, by simp [St.bump]; omega, h.vars, h.same, h.wf, h.rg, h.vr⟩
theorem Mk.set1 {w : World} {base bm bq : Nat} {s : St} (h : Mk w base bm bq s) (hl : s.next < 100000) : Mk (w.setCell ⟨bm, 1, none⟩ (.int .i64 (s.next + 1))) base bm bq s.bump := by
  obtain ⟨A, n, cap, hb1, hb2, hm, hcode, hmap⟩ := h.has
  obtain ⟨vs, v1, v2, hown, v4⟩ := hcode.rows
  have nbm := own_ne hown hm (by intro cur he; simp at he)
  obtain ⟨es, clk, hq0⟩ := hmap.isMap
  have nqb : bq ≠ bm := by rintro rfl; rw [hm] at hq0; cases hq0
  refine ⟨⟨A, n, cap, hb1, hb2, ?_, ?_, hmap.block (set_other nqb _)⟩, St.fit_bump h.fit hl⟩
  · have := set_block (k := 1) hm (.int .i64 (s.next + 1))
    simp at this
    exact this
  · exact ⟨hcode.len, vs, v1, v2, own_at hown fun a ha => set_other (nbm a ha) _, fun i x v hx hv => v4 i x v hx hv⟩

theorem mFresh_any (base bm bq : Nat) (s : St) (w : World) (h : Mk w base bm bq s) (hl : s.next < 100000) :
    Calls Try.prog 54 #[.pointer (some ⟨bm, 0, none⟩)] w (RetMkV w base bm bq s.bump (.int .i64 s.next)) := by
  have h1 := h.set1 hl
  obtain ⟨A, n, cap, hb1, hb2, hm, hcode, hmap⟩ := h.has
  have c1 := cells_of hm 1
  have f1 := frozen_of hm 1
  have hlt := block_lt hm
  simp at c1
  have hn : (s.next : Int) < 100000 := by omega
  have Hm := Lib.hid hm
  clear hm hcode hmap
  go_enter Try.func54, Try.ntmps54
  go_wp2
  go_ret
  refine ⟨by simp, h1, Below.setCell (Below.refl _ _) (by simpa using hb1) _, ⟨fun g hg => ⟨set_other hg.m _, ⟨by simpa using hg.lt, hg.m, hg.q, ?_⟩⟩⟩⟩
  have h2 := hg.c
  rw [cblk_of Hm.out] at h2
  have hm2 := set_block (k := 1) Hm.out (.int .i64 (s.next + 1))
  simp at hm2
  rw [cblk_of hm2]
  exact h2

theorem step_map_put {P : Program} {K : TypeId} {w : World} {b : Nat} {l : List (Int × Value)} {ops : Array Oper} {o : Oper} {a : Act} {K' : Act → World → Prop} {Q : Exit → Act → World → Prop} {E : Prop}
    (hw' : Region.wanted o (yielded ops a.tmps) = true) (m x y : Operand) (t : TypeId) (hop : o.op = Op.mapUpdate t m x y) (e : TypeId) (hk : P.underlying K = some (.int .i64)) (ht : P.underlying t = some (.map K e))
    (hm : a.eval m = .map (some b)) (h : MapI P K w b l) (hn : l.length < 1000000000) {k : Int} {v : Value} (hx : a.eval x = .int .i64 k) (hy : a.eval y = v) (hw : i64 k)
    (hK : ∀ w', MapI P K w' b (putA l k v) → w.grownBy w' (some b) → K' (a.put o.dst undef) w') : if Region.wanted o (yielded ops a.tmps) = true then o.wp P a w K' Q else E := by
  rw [if_pos hw']
  obtain ⟨w', hrun, r1, r2⟩ := run_map_put e hk ht h hn v hw
  unfold Oper.wp
  simp [execOp, hop, hm, hx, hy, hrun, Result.andThen]
  exact hK w' r1 r2
theorem zeroI (w : World) : (zeroValue 3).run Try.prog w = .ok (.int .i64 0) w := by kernel_rfl

theorem Mk.keep {w w' : World} {base bm bq : Nat} {s : St} (h : Mk w base bm bq s) (hb : Below w.heap.size w w') : Mk w' base bm bq s := by
  obtain ⟨A, n, cap, hb1, hb2, hm, hcode, hmap⟩ := h.has
  exact ⟨⟨A, n, cap, hb1, hb2, (hb.block bm (block_lt hm)).trans hm, hcode.below keepsIn hb, hmap.below hb⟩, h.fit⟩
theorem Mk.lt {w : World} {base bm bq : Nat} {s : St} (h : Mk w base bm bq s) : base ≤ bm ∧ bm < w.heap.size ∧ base ≤ bq ∧ bq < w.heap.size := by
  obtain ⟨A, n, cap, hb1, hb2, hm, hcode, hmap⟩ := h.has
  exact ⟨hb1, block_lt hm, hb2, hmap.lt⟩
theorem Mk.mq {w : World} {base bm bq : Nat} {s : St} (h : Mk w base bm bq s) : bm ≠ bq := by
  obtain ⟨A, n, cap, hb1, hb2, hm, hcode, hmap⟩ := h.has
  obtain ⟨es, clk, hq0⟩ := hmap.isMap
  rintro rfl; rw [hm] at hq0; cases hq0
theorem Mk.c2 {w : World} {base bm bq : Nat} {s : St} (h : Mk w base bm bq s) : w.cell? ⟨bm, 2, none⟩ = some (.map (some bq)) := by
  obtain ⟨A, n, cap, hb1, hb2, hm, hcode, hmap⟩ := h.has
  exact cells_of hm 2
theorem Mk.map {w : World} {base bm bq : Nat} {s : St} (h : Mk w base bm bq s) : MapI Try.prog 3 w bq (prs s) := by
  obtain ⟨A, n, cap, hb1, hb2, hm, hcode, hmap⟩ := h.has
  exact hmap
theorem prs_len (s : St) (h : s.regs.length = s.vars.length) : (prs s).length = s.vars.length := by simp [prs, h]
/-- the map with one more: the maker with one more variable -/
theorem Mk.put {w w' : World} {base bm bq : Nat} {s : St} {v : Int} {r : Int} (h : Mk w base bm bq s) (hq : MapI Try.prog 3 w' bq (putA (prs s) v (.int .i64 r))) (hg : w.grownBy w' (some bq)) (hlook : look (prs s) v = none)
    (hv : i64 v) (hr : 0 ≤ r ∧ r ≤ 100000) (hl : s.vars.length < 100000) : Mk w' base bm bq (s.addv v r) := by
  have hfit := h.fit
  obtain ⟨A, n, cap, hb1, hb2, hm, hcode, hmap⟩ := h.has
  obtain ⟨es, clk, hq0⟩ := hmap.isMap
  have nqb : bm ≠ bq := by rintro rfl; rw [hm] at hq0; cases hq0
  obtain ⟨vs, v1, v2, hown, v4⟩ := hcode.rows
  have nA := own_ne hown hq0 (by intro cur he; cases he)
  refine ⟨⟨A, n, cap, hb1, hb2, (hg.block bm (block_lt hm) (by simpa using nqb)).trans hm, ⟨hcode.len, vs, v1, v2, own_at hown fun a ha => hg.block _ (Own0.lt hown a ha).2 (by simpa using nA a ha), fun i x v hx hv => v4 i x v hx hv⟩, ?_⟩, ?_⟩
  · rw [putA_new hlook] at hq
    have e : prs (s.addv v r) = prs s ++ [(v, .int .i64 r)] := by
      simp only [prs, St.addv]
      rw [List.zipWith_append hfit.same.symm]
      rfl
    rw [e]
    exact hq
  · exact ⟨hfit.code, hfit.next, by simp [St.addv]; omega, by simp [St.addv, hfit.same], hfit.wf, fun x hx => by
      rcases List.mem_append.1 hx with hx | hx
      · exact hfit.rg x hx
      · simp at hx; subst hx; exact hr, fun x hx => by
      rcases List.mem_append.1 hx with hx | hx
      · exact hfit.vr x hx
      · simp at hx; subst hx; exact hv⟩

set_option maxRecDepth 100000 in
set_option maxHeartbeats 4000000 in
theorem mVariable_any (base bm bq : Nat) (s : St) (v x y : Int) (w : World) (hM : Mk w base bm bq s) (hv : i64 v) (hl : s.next < 100000) (hl2 : s.vars.length < 100000) :
    Calls Try.prog 52 #[.pointer (some ⟨bm, 0, none⟩), .int .i64 v, .int .i64 x, .int .i64 y] w (RetMkV w base bm bq (regF s v).1 (.tuple #[.int .i64 (regF s v).2.1, .int .i64 (if (regF s v).2.2 then x else y)])) := by
  have hfit := hM.fit
  have hmap := hM.map
  have c2 := hM.c2
  obtain ⟨hb1, hlt, hb2, hqlt⟩ := hM.lt
  rcases reg_cases s v hfit.same with ⟨hlook, hreg⟩ | ⟨r, hr, hlook, hreg⟩
  · rw [hreg]
    have hMd := hM.keep (Below.refl _ _).drew
    have hpl := prs_len s hfit.same
    have Hlook := Lib.hid hlook
    clear hreg
    go_enter Try.func52, Try.ntmps52
    go_wp2_with (first
      | (at_lookup; go_must (refine wpList_map_ok rfl (.tmp 16) (.tmp 17) 61 rfl 3 Try.underlying3 Try.underlying61 (zeroI _) rfl hmap rfl hv ?_); rw [hlook]; simp only [Option.getD, Option.isSome]))
    clear hlook
    go_region_held3 (fun w' => w'.cell? ⟨bm, 2, none⟩ = some (.map (some bq)))
      (first | assumption | go_keep)
      (first
        | (go_at_call 54; refine (mFresh_any base bm bq s _ hMd hl).mono ?_; rintro e w1 ⟨rfl, hM1, hbn, hkn⟩; have q2 := hM1.c2; obtain ⟨w2, hrun, hq2, hg2⟩ := run_map_put (t := 61) 3 Try.underlying3 Try.underlying61 hM1.map (by rw [show prs s.bump = prs s from rfl]; omega) (.int .i64 s.next) hv; have hM2 := Mk.put hM1 hq2 hg2 Hlook.out hv (by omega) hl2; have q22 := hM2.c2; have hb2' := Below.grown (hbn.mono (Nat.le_refl _)) hg2 (by have := hM1.lt; omega) (by intro k hk; cases hk; exact hb2))
        | fail)
    have hq3 := hM2.map
    have hlook3 : look (prs (s.bump.addv v s.next)) v = some (.int .i64 s.next) := by
      have : prs (s.bump.addv v s.next) = putA (prs s) v (.int .i64 s.next) := by
        rw [putA_new Hlook.out]
        simp only [prs, St.addv, St.bump]
        rw [List.zipWith_append hfit.same.symm]
        rfl
      rw [this, look_putA, if_pos rfl]
    go_wp2_with (first
      | (at_lookup; go_must (refine wpList_map_get rfl (.tmp 34) (.tmp 35) 61 rfl 3 Try.underlying3 Try.underlying61 (zeroI _) rfl hq3 rfl hv ?_); rw [hlook3]; simp only [Option.getD]))
    go_ret2
    refine ⟨rfl, hM2, Below.trans (Below.refl _ _).drew hb2', (Kept.below (Below.refl _ _).drew hlt).trans (hkn.trans ⟨fun g hg => ⟨hg2.block g hg.lt (by simpa using hg.q), ⟨Nat.lt_of_lt_of_le hg.lt hg2.size, hg.m, hg.q, ?_⟩⟩⟩)⟩
    have hm1 := hM1.lt
    rw [cblk_same (hg2.block bm hm1.2.1 (by simpa using hM1.mq))]
    exact hg.c
  · rw [hreg]
    go_enter Try.func52, Try.ntmps52
    go_wp2_with (first
      | (at_lookup; go_must (refine wpList_map_ok rfl (.tmp 16) (.tmp 17) 61 rfl 3 Try.underlying3 Try.underlying61 (zeroI _) rfl hmap rfl hv ?_); rw [hlook]; simp only [Option.getD, Option.isSome]))
    go_ret2
    exact ⟨rfl, hM, Below.refl _ _, Kept.refl _ _ _⟩
end Go.Proofs.Ytdeaeiolehglaaa
