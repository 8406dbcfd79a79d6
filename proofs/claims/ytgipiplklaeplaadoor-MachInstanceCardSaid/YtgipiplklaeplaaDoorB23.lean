/- Texts of this proof that belong together: words of memory, plain laws, walks. -/
import Derived.Deep.RegionHeld3
import Derived.Test.YtgipiplklaeplaaDoorB03
import Derived.Test.YtgipiplklaeplaaDoorB10
import Derived.Test.YtgipiplklaeplaaDoorB14
import Derived.Test.YtgipiplklaeplaaDoorB20
import Derived.Test.YtgipiplklaeplaaDoorB22
set_option linter.unusedVariables false
set_option linter.unusedSimpArgs false
namespace Go.Proofs.YtgipiplklaeplaaDoor
open Go.RowKit
theorem mc_ne : 116 ≠ 90 ∧ 116 ≠ 3 ∧ 116 ≠ 64 ∧ 90 ≠ 3 ∧ 90 ≠ 64 ∧ 3 ≠ 64 := by decide
def flatG : List (Bool × Int) → List Value
 | [] => []
 | g :: l => .bool g.1 :: .int .i64 g.2 :: flatG l
theorem flatG_app : ∀ a b : List (Bool × Int), flatG (a ++ b) = flatG a ++ flatG b
 | [], _ => rfl
 | g :: a, b => by simp [flatG, flatG_app a b]
structure Mx (w : World) (base bm : Nat) (m : Mc) (A : Option Addr) (c : Nat) (B : Option Addr) (d : Nat) (R : Option Addr) (e : Nat) (G : Option Addr) (f : Nat) : Prop where
 lo : base ≤ bm
 blk : w.heap[bm]? = some (.cells #[.slice A m.l.length c, .slice B m.tr.length d, .int .i64 m.r, .slice R m.regs.length e, .int .i64 m.next, .slice G m.goals.length f] 116 (0, 0))
 a : w.ownsRow base 90 3 (.slice A m.l.length c) m.l.length (flatC m.l)
 b : w.ownsRow base 3 1 (.slice B m.tr.length d) m.tr.length (m.tr.map (Value.int .i64))
 r : w.ownsRow base 3 1 (.slice R m.regs.length e) m.regs.length (m.regs.map (Value.int .i64))
 g : w.ownsRow base 64 2 (.slice G m.goals.length f) m.goals.length (flatG m.goals)
 sep : ∀ x y, B = some x → R = some y → x.block ≠ y.block
 wfc : ∀ c ∈ m.l, c.wf
 wfi : ∀ x ∈ m.tr, i64 x
 wfr : ∀ x ∈ m.regs, i64 x
theorem basM (w : World) (o : Obj) : Below w.heap.size w (w.alloc o) := (Below.refl _ _).alloc (Nat.le_refl _) _
def Mm (w : World) (base bm : Nat) (m : Mc) : Prop := ∃ A c B d R e G f, Mx w base bm m A c B d R e G f
theorem own_obj {w : World} {base size n cap : Nat} {e : TypeId} {A : Option Addr} {xs : List Value} (h : w.ownsRow base e size (.slice A n cap) n xs) : ∀ a, A = some a → ∃ cur, w.heap[a.block]? = some (.cells cur e (0, 0)) := by
 intro a ha
 rcases h.2 with ⟨h1, _⟩ | ⟨g', cap', cur, h1, _, h2, _⟩
 ·injection h1 with h1; rw [ha] at h1; cases h1
 ·injection h1 with h1
  rw [ha] at h1
  injection h1 with h1
  rw [h1]
  exact ⟨cur, h2⟩
theorem own_two {w : World} {base size n cap base' size' n' cap' : Nat} {e e' : TypeId} {A A' : Option Addr} {xs xs' : List Value} (h : w.ownsRow base e size (.slice A n cap) n xs) (h' : w.ownsRow base' e' size' (.slice A' n' cap') n' xs') (hne : e ≠ e') : ∀ a a', A = some a → A' = some a' → a.block ≠ a'.block := fun a a' ha ha' => by
 obtain ⟨cur, hc⟩ := own_obj h' a' ha'
 exact own_ne h hc (by intro cur he; injection he with f1 f2 f3; exact hne f2.symm) a ha
structure MKept (w w' : World) (bm : Nat) : Prop where
 size : w.heap.size ≤ w'.heap.size
 cells : ∀ (g : Nat) cs t, t ≠ 90 → t ≠ 3 → t ≠ 64 → g ≠ bm → w.heap[g]? = some (.cells cs t (0, 0)) → w'.heap[g]? = some (.cells cs t (0, 0))
theorem MKept.trans {w w' w'' : World} {bm : Nat} (h : MKept w w' bm) (h' : MKept w' w'' bm) : MKept w w'' bm := ⟨Nat.le_trans h.size h'.size, fun g cs t n1 n2 n3 n4 hx => h'.cells g cs t n1 n2 n3 n4 (h.cells g cs t n1 n2 n3 n4 hx)⟩
theorem MKept.below {w w' : World} {bm : Nat} (hb : Below w.heap.size w w') : MKept w w' bm := ⟨hb.size, fun g _ _ _ _ _ _ hx => (hb.block g (block_lt hx)).trans hx⟩
theorem MKept.set (w : World) (bm k : Nat) (v : Value) : MKept w (w.setCell ⟨bm, k, none⟩ v) bm := ⟨by simp, fun g _ _ _ _ _ n4 hx => (set_other n4 v).trans hx⟩
section
variable {w w' : World} {base bm : Nat} {m : Mc} {A B R G : Option Addr} {c d e f : Nat}
theorem Mx.lt (h : Mx w base bm m A c B d R e G f) : bm < w.heap.size := block_lt h.blk
theorem Mm.lt (h : Mm w base bm m) : base ≤ bm ∧ bm < w.heap.size := by
 obtain ⟨A, c, B, d, R, e, G, f, h⟩ := h
 exact ⟨h.lo, h.lt⟩
theorem Mx.below (h : Mx w base bm m A c B d R e G f) (hb : Below w.heap.size w w') : Mx w' base bm m A c B d R e G f :=
 ⟨h.lo, (hb.block bm h.lt).trans h.blk, own_below h.a hb, own_below h.b hb, own_below h.r hb, own_below h.g hb, h.sep, h.wfc, h.wfi, h.wfr⟩
theorem Mm.below (h : Mm w base bm m) (hb : Below w.heap.size w w') : Mm w' base bm m := by
 obtain ⟨A, c, B, d, R, e, G, f, h⟩ := h
 exact ⟨A, c, B, d, R, e, G, f, h.below hb⟩
theorem Mx.na (h : Mx w base bm m A c B d R e G f) : ∀ x, A = some x → x.block ≠ bm := own_ne h.a h.blk (by intro cur he; injection he with f1 f2 f3; exact mc_ne.1 f2)
theorem Mx.nb (h : Mx w base bm m A c B d R e G f) : ∀ x, B = some x → x.block ≠ bm := own_ne h.b h.blk (by intro cur he; injection he with f1 f2 f3; exact mc_ne.2.1 f2)
theorem Mx.nr (h : Mx w base bm m A c B d R e G f) : ∀ x, R = some x → x.block ≠ bm := own_ne h.r h.blk (by intro cur he; injection he with f1 f2 f3; exact mc_ne.2.1 f2)
theorem Mx.ng (h : Mx w base bm m A c B d R e G f) : ∀ x, G = some x → x.block ≠ bm := own_ne h.g h.blk (by intro cur he; injection he with f1 f2 f3; exact mc_ne.2.2.1 f2)
theorem Mx.isC (h : Mx w base bm m A c B d R e G f) : IsC w A m.l.length c m.l := ⟨Sl.own h.a (by omega), h.wfc⟩
theorem Mx.isB (h : Mx w base bm m A c B d R e G f) : IsI w B m.tr.length d m.tr := ⟨Sl.own h.b (by omega), h.wfi⟩
theorem Mx.isR (h : Mx w base bm m A c B d R e G f) : IsI w R m.regs.length e m.regs := ⟨Sl.own h.r (by omega), h.wfr⟩
theorem Mx.keep (h : Mx w base bm m A c B d R e G f) (hm : w'.heap[bm]? = w.heap[bm]?) (ha : ∀ x, A = some x → w'.heap[x.block]? = w.heap[x.block]?) (hb : ∀ x, B = some x → w'.heap[x.block]? = w.heap[x.block]?) (hr : ∀ x, R = some x → w'.heap[x.block]? = w.heap[x.block]?) (hg : ∀ x, G = some x → w'.heap[x.block]? = w.heap[x.block]?) : Mx w' base bm m A c B d R e G f :=
 ⟨h.lo, hm.trans h.blk, own_at h.a ha, own_at h.b hb, own_at h.r hr, own_at h.g hg, h.sep, h.wfc, h.wfi, h.wfr⟩
theorem own_lt0 {size n cap : Nat} {t : TypeId} {X : Option Addr} {xs : List Value} (h : w.ownsRow base t size (.slice X n cap) n xs) : ∀ x, X = some x → x.block < w.heap.size := fun x hx => (Own0.lt h x hx).2
theorem own_new {X X' : Option Addr} {n n' k k' g : Nat} (hx : (Value.slice X' n' k').ownBlock = (Value.slice X n k).ownBlock ∨ (Value.slice X' n' k').ownBlock = some w.heap.size) (hg : g < w.heap.size) (hne : ∀ x, X = some x → x.block ≠ g) : ∀ x, X' = some x → x.block ≠ g := by
 intro x hx' he
 subst hx'
 simp only [Value.ownBlock] at hx
 rcases hx with hx | hx
 ·cases X with
  | none => cases hx
  | some y => simp only [Option.some.injEq] at hx; exact hne y rfl (by omega)
 ·simp only [Option.some.injEq] at hx; omega
theorem Mx.upd0 (h : Mx w base bm m A c B d R e G f) {A' : Option Addr} {n' c' : Nat} {l' : List C} (ho : w'.ownsRow base 90 3 (.slice A' n' c') n' (flatC l')) (hl : n' = l'.length) (hg : w.grownBy w' (Value.slice A m.l.length c).ownBlock)
  (hx : (Value.slice A' n' c').ownBlock = (Value.slice A m.l.length c).ownBlock ∨ (Value.slice A' n' c').ownBlock = some w.heap.size) (hw : ∀ c ∈ l', c.wf) : Mx (w'.setCell ⟨bm, 0, none⟩ (.slice A' n' c')) base bm { m with l := l' } A' c' B d R e G f := by
 subst hl
 have hm := (grown_block hg h.lt h.na).trans h.blk
 have x0 := set_block (k := 0) hm (.slice A' l'.length c')
 have nA : ∀ x, A' = some x → x.block ≠ bm := own_new hx h.lt h.na
 refine ⟨h.lo, by simpa using x0, own_at ho (fun x hx => set_other (nA x hx) _), own_at h.b (fun x hx => ?_), own_at h.r (fun x hx => ?_), own_at h.g (fun x hx => ?_), h.sep, hw, h.wfi, h.wfr⟩
 ·rw [set_other (h.nb x hx)]; exact grown_block hg (own_lt0 h.b x hx) (fun y hy => own_two h.a h.b mc_ne.2.2.2.1 y x hy hx)
 ·rw [set_other (h.nr x hx)]; exact grown_block hg (own_lt0 h.r x hx) (fun y hy => own_two h.a h.r mc_ne.2.2.2.1 y x hy hx)
 ·rw [set_other (h.ng x hx)]; exact grown_block hg (own_lt0 h.g x hx) (fun y hy => own_two h.a h.g mc_ne.2.2.2.2.1 y x hy hx)
theorem Mx.upd1 (h : Mx w base bm m A c B d R e G f) {B' : Option Addr} {n' d' : Nat} {tr' : List Int} (ho : w'.ownsRow base 3 1 (.slice B' n' d') n' (tr'.map (Value.int .i64))) (hl : n' = tr'.length) (hg : w.grownBy w' (Value.slice B m.tr.length d).ownBlock)
  (hx : (Value.slice B' n' d').ownBlock = (Value.slice B m.tr.length d).ownBlock ∨ (Value.slice B' n' d').ownBlock = some w.heap.size) (hw : ∀ x ∈ tr', i64 x) : Mx (w'.setCell ⟨bm, 1, none⟩ (.slice B' n' d')) base bm { m with tr := tr' } A c B' d' R e G f := by
 subst hl
 have hm := (grown_block hg h.lt h.nb).trans h.blk
 have x0 := set_block (k := 1) hm (.slice B' tr'.length d')
 have nB : ∀ x, B' = some x → x.block ≠ bm := own_new hx h.lt h.nb
 refine ⟨h.lo, by simpa using x0, own_at h.a (fun x hx => ?_), own_at ho (fun x hx => set_other (nB x hx) _), own_at h.r (fun x hx => ?_), own_at h.g (fun x hx => ?_), fun x y hx' hy => ?_, h.wfc, hw, h.wfr⟩
 ·rw [set_other (h.na x hx)]; exact grown_block hg (own_lt0 h.a x hx) (fun y hy => (own_two h.a h.b mc_ne.2.2.2.1 x y hx hy).symm)
 ·rw [set_other (h.nr x hx)]; exact grown_block hg (own_lt0 h.r x hx) (fun y hy => h.sep y x hy hx)
 ·rw [set_other (h.ng x hx)]; exact grown_block hg (own_lt0 h.g x hx) (fun y hy => own_two h.b h.g mc_ne.2.2.2.2.2 y x hy hx)
 ·exact own_new hx (own_lt0 h.r y hy) (fun z hz => h.sep z y hz hy) x hx'
theorem Mx.upd3 (h : Mx w base bm m A c B d R e G f) {R' : Option Addr} {n' e' : Nat} {rs' : List Int} (ho : w'.ownsRow base 3 1 (.slice R' n' e') n' (rs'.map (Value.int .i64))) (hl : n' = rs'.length) (hg : w.grownBy w' (Value.slice R m.regs.length e).ownBlock)
  (hx : (Value.slice R' n' e').ownBlock = (Value.slice R m.regs.length e).ownBlock ∨ (Value.slice R' n' e').ownBlock = some w.heap.size) (hw : ∀ x ∈ rs', i64 x) : Mx (w'.setCell ⟨bm, 3, none⟩ (.slice R' n' e')) base bm { m with regs := rs' } A c B d R' e' G f := by
 subst hl
 have hm := (grown_block hg h.lt h.nr).trans h.blk
 have x0 := set_block (k := 3) hm (.slice R' rs'.length e')
 have nR : ∀ x, R' = some x → x.block ≠ bm := own_new hx h.lt h.nr
 refine ⟨h.lo, by simpa using x0, own_at h.a (fun x hx => ?_), own_at h.b (fun x hx => ?_), own_at ho (fun x hx => set_other (nR x hx) _), own_at h.g (fun x hx => ?_), fun x y hx' hy => ?_, h.wfc, h.wfi, hw⟩
 ·rw [set_other (h.na x hx)]; exact grown_block hg (own_lt0 h.a x hx) (fun y hy => (own_two h.a h.r mc_ne.2.2.2.1 x y hx hy).symm)
 ·rw [set_other (h.nb x hx)]; exact grown_block hg (own_lt0 h.b x hx) (fun y hy => (h.sep x y hx hy).symm)
 ·rw [set_other (h.ng x hx)]; exact grown_block hg (own_lt0 h.g x hx) (fun y hy => own_two h.r h.g mc_ne.2.2.2.2.2 y x hy hx)
 ·exact (own_new hx (own_lt0 h.b x hx') (fun z hz => (h.sep x z hx' hz).symm) y hy).symm
theorem Mx.cellA (h : Mx w base bm m A c B d R e G f) {ga j : Nat} {v : Value} {l' : List C} (hA : A = some ⟨ga, 0, none⟩) (hl : l'.length = m.l.length) (hf : (flatC m.l).set j v = flatC l') (hw : ∀ c ∈ l', c.wf) : Mx (w.setCell ⟨ga, j, none⟩ v) base bm { m with l := l' } A c B d R e G f := by
 have hga := h.na _ hA
 simp only at hga
 refine ⟨h.lo, ?_, ?_, own_at h.b (fun x hx => set_other ?_ _), own_at h.r (fun x hx => set_other ?_ _), own_at h.g (fun x hx => set_other ?_ _), h.sep, hw, h.wfi, h.wfr⟩
 ·rw [set_other (fun e => hga e.symm)]; simp only [hl]; exact h.blk
 ·have := h.a
  rw [hA] at this
  have h2 := (this.stored j v).1
  rw [hf] at h2
  rw [hA]
  simp only [hl]
  exact h2
 ·exact fun e => own_two h.a h.b mc_ne.2.2.2.1 _ x hA hx e.symm
 ·exact fun e => own_two h.a h.r mc_ne.2.2.2.1 _ x hA hx e.symm
 ·exact fun e => own_two h.a h.g mc_ne.2.2.2.2.1 _ x hA hx e.symm
theorem Mx.cellR (h : Mx w base bm m A c B d R e G f) {gr j : Nat} {v : Value} {rs' : List Int} (hR : R = some ⟨gr, 0, none⟩) (hl : rs'.length = m.regs.length) (hf : (m.regs.map (Value.int .i64)).set j v = rs'.map (Value.int .i64)) (hw : ∀ x ∈ rs', i64 x) : Mx (w.setCell ⟨gr, j, none⟩ v) base bm { m with regs := rs' } A c B d R e G f := by
 have hgr := h.nr _ hR
 simp only at hgr
 refine ⟨h.lo, ?_, own_at h.a (fun x hx => set_other ?_ _), own_at h.b (fun x hx => set_other ?_ _), ?_, own_at h.g (fun x hx => set_other ?_ _), h.sep, h.wfc, h.wfi, hw⟩
 ·rw [set_other (fun e => hgr e.symm)]; simp only [hl]; exact h.blk
 ·exact fun e => own_two h.a h.r mc_ne.2.2.2.1 x _ hx hR e
 ·exact fun e => h.sep x _ hx hR e
 ·have := h.r
  rw [hR] at this
  have h2 := (this.stored j v).1
  rw [hf] at h2
  rw [hR]
  simp only [hl]
  exact h2
 ·exact fun e => own_two h.r h.g mc_ne.2.2.2.2.2 _ x hR hx e.symm
theorem MKept.grown {X : Option Addr} {n k size : Nat} {t : TypeId} {xs : List Value} (ho : w.ownsRow base t size (.slice X n k) n xs) (hg : w.grownBy w' (Value.slice X n k).ownBlock) (ht : t = 90 ∨ t = 3 ∨ t = 64) : MKept w w' bm :=
 ⟨hg.size, fun g cs t' n1 n2 n3 n4 hx => by
  rw [grown_block hg (block_lt hx) (own_ne ho hx (by intro cur he; injection he with f1 f2 f3; rcases ht with h | h | h <;> rw [h] at f2 <;> contradiction))]
  exact hx⟩
theorem MKept.cell {X : Option Addr} {n k size ga j : Nat} {v : Value} {t : TypeId} {xs : List Value} (ho : w.ownsRow base t size (.slice X n k) n xs) (hX : X = some ⟨ga, 0, none⟩) (ht : t = 90 ∨ t = 3 ∨ t = 64) : MKept w (w.setCell ⟨ga, j, none⟩ v) bm :=
 ⟨by simp, fun g cs t' n1 n2 n3 n4 hx => by
  have := own_ne ho hx (by intro cur he; injection he with f1 f2 f3; rcases ht with h | h | h <;> rw [h] at f2 <;> contradiction) _ hX
  rw [set_other (fun e => this e.symm)]
  exact hx⟩
end
def RetM (w : World) (base bm : Nat) (m : Mc) (v : Value) (e : Ending) (w' : World) : Prop := e = .returned v ∧ Mm w' base bm m ∧ Below base w w' ∧ MKept w w' bm
abbrev errV (n : Int) : Value := .iface 29 (.int .i64 n)
def RetS (w : World) (base bm : Nat) (s : McR) (e : Ending) (w' : World) : Prop := match s with
 | .ok m => RetM w base bm m .nilIface e w'
 | .err n => e = .returned (errV n) ∧ Below base w w' ∧ MKept w w' bm
theorem i64_near {x : Int} (h : -100000000000 ≤ x) (h2 : x ≤ 100000000000) : i64 x := by unfold i64; omega
theorem Mx.next {w : World} {base bm : Nat} {m : Mc} {A B R G : Option Addr} {c d e f : Nat} (h : Mx w base bm m A c B d R e G f) (n : Int) : Mx (w.setCell ⟨bm, 4, none⟩ (.int .i64 n)) base bm { m with next := n } A c B d R e G f := by
 have x1 := set_block (k := 4) h.blk (.int .i64 n)
 exact ⟨h.lo, by simpa using x1, own_at h.a (fun a ha => set_other (h.na a ha) _), own_at h.b (fun a ha => set_other (h.nb a ha) _), own_at h.r (fun a ha => set_other (h.nr a ha) _), own_at h.g (fun a ha => set_other (h.ng a ha) _), h.sep, h.wfc, h.wfi, h.wfr⟩
theorem open6 {w : World} {b : Nat} {v0 v1 v2 v3 v4 v5 : Value} {t : TypeId} (h : w.heap[b]? = some (.cells #[v0, v1, v2, v3, v4, v5] t (0, 0))) :
  w.cell? ⟨b, 0, none⟩ = some v0 ∧ w.cell? ⟨b, 1, none⟩ = some v1 ∧ w.cell? ⟨b, 2, none⟩ = some v2 ∧ w.cell? ⟨b, 3, none⟩ = some v3 ∧ w.cell? ⟨b, 4, none⟩ = some v4 ∧ w.cell? ⟨b, 5, none⟩ = some v5 ∧ b < w.heap.size := ⟨cells_of h 0, cells_of h 1, cells_of h 2, cells_of h 3, cells_of h 4, cells_of h 5, block_lt h⟩
set_option maxHeartbeats 1000000 in
theorem kPass_any (base bm : Nat) (m : Mc) (w : World) (h : Mm w base bm m) (h0 : 0 ≤ m.next) (h1 : m.next ≤ 5000) :
  Calls Tryd.prog 136 #[.pointer (some ⟨bm, 0, none⟩)] w fun e w' => e = .returned (.int .i64 m.next) ∧ w' = w.setCell ⟨bm, 4, none⟩ (.int .i64 (m.next + 1)) := by
 obtain ⟨A, c, B, d, R, e, G, f, hM⟩ := h
 have g2 := hM.blk
 obtain ⟨y0, y1, y2, y3, y4, y5, yl⟩ := open6 g2
 have yf := frozen_of g2 4
 have x2 := set_block (k := 4) g2 (.int .i64 (m.next + 1))
 simp at x2
 obtain ⟨z0, z1, z2, z3, z4, z5, zl⟩ := open6 x2
 clear x2 g2 hM
 go_enter Tryd.func136, Tryd.ntmps136
 go_wp2
 go_ret
 exact ⟨rfl, rfl⟩
end Go.Proofs.YtgipiplklaeplaaDoor
namespace Go.Proofs.YtgipiplklaeplaaDoor
open Go.RowKit
theorem map_snoc_set (rs : List Int) (p q : Int) : ((rs ++ [q]).map (Value.int .i64)).set rs.length (.int .i64 p) = (rs ++ [p]).map (Value.int .i64) := by
 rw [List.map_append, List.set_append_right _ _ (by simp)]
 simp
set_option maxRecDepth 100000 in
set_option maxHeartbeats 2000000 in
theorem kSet_any (base bm : Nat) (m : Mc) (p : Int) (w : World) (h : Mm w base bm m) (hb0 : base ≤ w.heap.size) (hp : i64 p) (hl : m.regs.length ≤ 100000) :
  Calls Tryd.prog 163 #[.pointer (some ⟨bm, 0, none⟩), .int .i64 (m.regs.length : Int), .int .i64 p] w (RetM w base bm (m.set p) (.tuple #[])) := by
 obtain ⟨A, c, B, d, R, e, G, f, hM⟩ := h
 obtain ⟨y0, y1, y2, y3, y4, y5, yl⟩ := open6 hM.blk
 have HM := Lib.hid hM
 have hM1 : Mx (w.alloc (.cells #[.int .i64 0] 3)) base bm m A c B d R e G f := hM.below (basM _ _)
 have HM1 := Lib.hid hM1
 have hal : Below base w (w.alloc (.cells #[.int .i64 0] 3)) := (Below.refl _ _).alloc hb0 _
 have Hal := Lib.hid hal
 clear hM hM1 hal
 go_enter Tryd.func163, Tryd.ntmps163
 go_wp2
 refine wp_loop_rounds 2 ?_
 rw [rounds_succ]
 go_wp2_with (first
  | (at_builtin; go_must (refine wpList_append_sl rfl (.tmp 17) (.tmp 18) 42 rfl base 3 Tryd.underlying42 infoI rfl (by omega) (v := .slice R m.regs.length e) rfl HM1.out.r rfl (Sl.lit w _ [.int .i64 0] 3 1 1 (by simp) rfl (by simp [maxLen])) (one1 rfl) (by omega) (by omega) (by simp; omega) ?_); intro R2 cap2 w2 hown2 hb2 hgr2 hblk2; have x9 := (grown_block hgr2 HM1.out.lt HM1.out.nr).trans HM1.out.blk; obtain ⟨s0, s1, s2, s3, s4, s5, sl⟩ := open6 x9; have sf := frozen_of x9 3; have hM3 := HM1.out.upd3 (rs' := m.regs ++ [0]) (n' := m.regs.length + 1) (by simpa using hown2) (by simp) hgr2 hblk2 (fun x hx => by rcases List.mem_append.1 hx with hx | hx; exact HM1.out.wfr x hx; simp at hx; subst hx; exact i64_near (by omega) (by omega)); have HM3 := Lib.hid hM3; have hk2 := MKept.grown (bm := bm) HM1.out.r hgr2 (.inr (.inl rfl)); have Hk2 := Lib.hid hk2; have Hb2 := Lib.hid (Hal.out.trans hb2); clear x9 hM3 hk2 hgr2 hblk2 hb2))
 rw [rounds_succ]
 have hKal : MKept w (w.alloc (.cells #[.int .i64 0] 3)) bm := MKept.below (basM _ _)
 refine wp_world' (Φ := fun X => Mx X base bm { m with regs := m.regs ++ [0] } A c B d R2 cap2 G f ∧ Below base w X ∧ MKept w X bm) ⟨HM3.out, Hb2.out.setCell HM.out.lo _, (hKal.trans Hk2.out).trans (MKept.set _ _ _ _)⟩ ?_
 rintro X ⟨hX, hbX, hkX⟩
 obtain ⟨t0, t1, t2, t3, t4, t5, tl⟩ := open6 hX.blk
 simp only [List.length_append, List.length_cons, List.length_nil, Nat.zero_add] at t3
 obtain ⟨gr, hgr⟩ : ∃ gr, R2 = some ⟨gr, 0, none⟩ := by
  obtain ⟨g, cap', hv, _⟩ := hown2.form (by omega)
  injection hv with hv
  exact ⟨g, hv⟩
 have hr := hX.r
 rw [hgr] at hr t3
 have q0 := hr.cellAt m.regs.length (by simp)
 have qf := hr.frozenAt m.regs.length
 simp only [List.map_append, List.map_cons, List.map_nil] at q0
 rw [List.getElem?_append_right (by simp), List.length_map, Nat.sub_self] at q0
 simp only [List.getElem?_cons_zero] at q0
 have hrl := hX.r.lt gr (by rw [hgr]; rfl)
 have hX4 : Mx (X.setCell ⟨gr, m.regs.length, none⟩ (.int .i64 p)) base bm (m.set p) A c B d R2 cap2 G f := hX.cellR (rs' := m.regs ++ [p]) hgr (by simp) (map_snoc_set m.regs p 0) (fun x hx => by
  rcases List.mem_append.1 hx with hx | hx
  ·exact HM.out.wfr x hx
  ·simp at hx; subst hx; exact hp)
 have hk4 : MKept X (X.setCell ⟨gr, m.regs.length, none⟩ (.int .i64 p)) bm := MKept.cell hX.r hgr (.inr (.inl rfl))
 have HX4 := Lib.hid hX4
 have Hk4 := Lib.hid (hkX.trans hk4)
 have Hb4 := Lib.hid (hbX.setCell (p := ⟨gr, m.regs.length, none⟩) hrl.1 (.int .i64 p))
 have hcap := Sl.own hX.r (by omega)
 have hc1 := hcap.hcap
 have hc2 := hcap.hmax
 simp at hc1
 unfold maxLen at hc2
 clear hX hbX hkX hr hX4 hk4 HM3 Hk2 Hb2 hown2 s0 s1 s2 s3 s4 s5 sl sf y0 y1 y2 y3 y4 y5 yl hKal HM HM1 Hal hcap hgr
 go_wp2
 go_end0
 exact ⟨rfl, ⟨_, _, _, _, _, _, _, _, HX4.out⟩, Hb4.out, Hk4.out⟩
set_option maxRecDepth 100000 in
set_option maxHeartbeats 2000000 in
theorem kBind_any (base bm : Nat) (m : Mc) (p q : Nat) (w : World) (h : Mm w base bm m) (hb0 : base ≤ w.heap.size) (hp : p < m.l.length) (hq : q ≤ 1000000) (hl : m.l.length ≤ 100000) (ht : m.tr.length ≤ 100000) :
  Calls Tryd.prog 168 #[.pointer (some ⟨bm, 0, none⟩), .int .i64 p, .int .i64 q] w (RetM w base bm { m with l := bnd m.l p q, tr := m.tr ++ [(p : Int)] } (.tuple #[])) := by
 obtain ⟨A, c, B, d, R, e, G, f, hM⟩ := h
 obtain ⟨y0, y1, y2, y3, y4, y5, yl⟩ := open6 hM.blk
 obtain ⟨ga, xv, hA, r0, r1, r2, r3, r4, r5, r6⟩ := own_setn (i := p) (q := q) hM.a hp rfl
 unfold maxLen at r5
 have hM1 : Mx (w.setCell ⟨ga, p * 3 + 2, none⟩ (.int .i64 (q : Int))) base bm { m with l := bnd m.l p q } A c B d R e G f := hM.cellA hA (by simp [bnd]) (flatC_setN m.l p q hp) (setN_wf hM.wfc hp hq)
 have hk1 : MKept w (w.setCell ⟨ga, p * 3 + 2, none⟩ (.int .i64 (q : Int))) bm := MKept.cell hM.a hA (.inl rfl)
 have hb1 : Below base w (w.setCell ⟨ga, p * 3 + 2, none⟩ (.int .i64 (q : Int))) := Below.setCell (p := ⟨ga, p * 3 + 2, none⟩) (Below.refl base w) r2 _
 obtain ⟨z0, z1, z2, z3, z4, z5, zl⟩ := open6 hM1.blk
 have hM2 : Mx ((w.setCell ⟨ga, p * 3 + 2, none⟩ (.int .i64 (q : Int))).alloc (.cells #[.int .i64 (p : Int)] 3)) base bm { m with l := bnd m.l p q } A c B d R e G f := hM1.below (basM _ _)
 have HM2 := Lib.hid hM2
 have HK2 := Lib.hid (hk1.trans (MKept.below (bm := bm) (basM (w.setCell ⟨ga, p * 3 + 2, none⟩ (.int .i64 (q : Int))) (.cells #[.int .i64 (p : Int)] 3))))
 have HB2 := Lib.hid (hb1.alloc (show base ≤ (w.setCell ⟨ga, p * 3 + 2, none⟩ (.int .i64 (q : Int))).heap.size by simpa using hb0) (.cells #[.int .i64 (p : Int)] 3))
 have HM := Lib.hid hM
 rw [hA] at y0 z0
 clear hM hM1 hk1 hb1 hM2 r6 hA
 go_enter Tryd.func168, Tryd.ntmps168
 go_wp2_with (first
  | (at_builtin; go_must (refine wpList_append_sl rfl (.tmp 20) (.tmp 22) 42 rfl base 3 Tryd.underlying42 infoI rfl (by omega) (v := .slice B m.tr.length d) (n := m.tr.length) rfl HM2.out.b rfl (Sl.lit (w.setCell ⟨ga, p * 3 + 2, none⟩ (.int .i64 (q : Int))) _ [.int .i64 (p : Int)] 3 1 1 (by simp) rfl (by simp [maxLen])) (one1 rfl) (by omega) (by omega) (by simp; omega) ?_); intro B2 cap2 w2 hown2 hb2 hgr2 hblk2; have x9 := (grown_block hgr2 HM2.out.lt HM2.out.nb).trans HM2.out.blk; obtain ⟨s0, s1, s2, s3, s4, s5, sl⟩ := open6 x9; have sf := frozen_of x9 1; have hM3 := HM2.out.upd1 (tr' := m.tr ++ [(p : Int)]) (n' := m.tr.length + 1) (by simpa using hown2) (by simp) hgr2 hblk2 (fun x hx => by rcases List.mem_append.1 hx with hx | hx; exact HM.out.wfi x hx; simp at hx; subst hx; exact i64_near (by omega) (by omega)); have HM3 := Lib.hid hM3; have HK3 := Lib.hid (HK2.out.trans (MKept.grown (bm := bm) HM2.out.b hgr2 (.inr (.inl rfl)))); have HB3 := Lib.hid (HB2.out.trans hb2); clear x9 hM3 hgr2 hblk2 hb2 hown2))
 go_end0
 exact ⟨rfl, ⟨_, _, _, _, _, _, _, _, HM3.out⟩, HB3.out.setCell HM.out.lo _, HK3.out.trans (MKept.set _ _ _ _)⟩
end Go.Proofs.YtgipiplklaeplaaDoor
namespace Go.Proofs.YtgipiplklaeplaaDoor
open Go.RowKit
def RetP (w : World) (base bm : Nat) (m : Mc) (xs : List C) (e : Ending) (w' : World) : Prop :=
 if m.fits xs.length then e = .returned (.tuple #[.int .i64 m.l.length, .nilIface]) ∧ Mm w' base bm { m with l := m.l ++ xs } ∧ Below base w w' ∧ MKept w w' bm
 else e = .returned (.tuple #[.int .i64 0, errV 80]) ∧ w' = w
theorem flatC_app : ∀ a b : List C, flatC (a ++ b) = flatC a ++ flatC b
 | [], _ => rfl
 | x :: a, b => by simp only [List.cons_append, flatC, flatC_app a b]; simp
set_option maxRecDepth 100000 in
set_option maxHeartbeats 2000000 in
theorem kPut_any (base bm : Nat) (m : Mc) (X : Option Addr) (k kc : Nat) (xs : List C) (w : World) (h : Mm w base bm m) (hX : IsC w X k kc xs) (hb0 : base ≤ w.heap.size) (hk : k ≤ 1000) (hl : m.l.length ≤ 5000) (hr : m.r ≤ 4096) (hr0 : 0 ≤ m.r) :
  Calls Tryd.prog 170 #[.pointer (some ⟨bm, 0, none⟩), .slice X k kc] w (RetP w base bm m xs) := by
 obtain ⟨A, c, B, d, R, e, G, f, hM⟩ := h
 obtain ⟨y0, y1, y2, y3, y4, y5, yl⟩ := open6 hM.blk
 have hxl := hX.len
 have hcx := hX.sl.hcap
 have hmx := hX.sl.hmax
 unfold maxLen at hmx
 unfold RetP
 rw [hxl]
 by_cases hf : m.fits k
 ·simp only [if_pos hf]
  unfold Mc.fits at hf
  have hnf : ¬ ((m.l.length : Int) + (k : Int) > m.r) := by omega
  have HM := Lib.hid hM
  have HX := Lib.hid hX
  have Hxl := Lib.hid hxl
  have hcl := (Sl.own hM.a (by omega)).hmax
  unfold maxLen at hcl
  have hcl2 := (Sl.own hM.a (by omega)).hcap
  clear hM hX hxl hf
  go_enter Tryd.func170, Tryd.ntmps170
  go_wp2_with (first
   | (at_builtin; go_must (refine wpList_append_sl rfl (.tmp 29) (.tmp 30) 41 rfl base 90 Tryd.underlying41 infoS rfl (by omega) (v := .slice A m.l.length c) (n := m.l.length) rfl HM.out.a rfl HX.out.sl (oneC xs) (by omega) (by omega) hb0 ?_); intro A2 cap2 w2 hown2 hb2 hgr2 hblk2; have x9 := (grown_block hgr2 HM.out.lt HM.out.na).trans HM.out.blk; obtain ⟨s0, s1, s2, s3, s4, s5, sl⟩ := open6 x9; have sf := frozen_of x9 0; have hM3 := HM.out.upd0 (l' := m.l ++ xs) (n' := m.l.length + k) (by rw [flatC_app]; exact hown2) (by rw [List.length_append, Hxl.out]) hgr2 hblk2 (fun x hx => by rcases List.mem_append.1 hx with hx | hx; exact HM.out.wfc x hx; exact HX.out.wf x hx); have HM3 := Lib.hid hM3; have HK3 := Lib.hid (MKept.grown (bm := bm) HM.out.a hgr2 (.inl rfl)); have HB3 := Lib.hid hb2; clear x9 hM3 hgr2 hblk2 hb2 hown2))
  go_ret2
  exact ⟨rfl, ⟨_, _, _, _, _, _, _, _, HM3.out⟩, HB3.out.setCell HM.out.lo _, HK3.out.trans (MKept.set _ _ _ _)⟩
 ·simp only [if_neg hf]
  unfold Mc.fits at hf
  have hnf : (m.l.length : Int) + (k : Int) > m.r := by omega
  clear hM hX hxl hf
  go_enter Tryd.func170, Tryd.ntmps170
  go_wp2
  go_ret2
  exact ⟨rfl, rfl⟩
end Go.Proofs.YtgipiplklaeplaaDoor
namespace Go.Proofs.YtgipiplklaeplaaDoor
open Go.RowKit
def RetT (w : World) (base bm : Nat) (m : Mc) (s : ByteArray) (n : Nat) (e : Ending) (w' : World) : Prop :=
 if m.fits (n + 1) then e = .returned (.tuple #[.int .i64 m.l.length, .nilIface]) ∧ Mm w' base bm { m with l := m.l ++ topL m.l.length s n, next := ((m.l.length + 1 : Nat) : Int) } ∧ Below base w w' ∧ MKept w w' bm
 else e = .returned (.tuple #[.int .i64 0, errV 80]) ∧ Below base w w' ∧ MKept w w' bm
def topK (p : Nat) (s : ByteArray) (n k : Nat) : List C := ⟨4, s, (n : Int)⟩ :: (List.range k).map fun i => ⟨1, emp, ((p + 1 + i : Nat) : Int)⟩
theorem topK_all (p : Nat) (s : ByteArray) (n : Nat) : topK p s n n = topL p s n := rfl
theorem topK_succ (p : Nat) (s : ByteArray) (n k : Nat) : flatC (topK p s n (k + 1)) = flatC (topK p s n k) ++ [.int .i64 1, .string emp, .int .i64 ((p + 1 + k : Nat) : Int)] := by
 have : topK p s n (k + 1) = topK p s n k ++ [⟨1, emp, ((p + 1 + k : Nat) : Int)⟩] := by simp [topK, List.range_succ]
 rw [this, flatC_app]
 rfl
theorem topL_wf {p : Nat} {s : ByteArray} {n : Nat} (hs : s.size ≤ maxLen) (hn : n ≤ 6) (hp : p ≤ 5000) : ∀ c ∈ topL p s n, c.wf := by
 intro c hc
 simp only [topL, List.mem_cons, List.mem_map, List.mem_range] at hc
 rcases hc with rfl | ⟨i, hi, rfl⟩
 ·exact ⟨by unfold i64; simp, by unfold i64; simp only; omega, hs⟩
 ·exact ⟨by unfold i64; simp, by unfold i64; simp only; omega, Nat.zero_le _⟩
set_option maxRecDepth 100000 in
set_option maxHeartbeats 4000000 in
theorem kStruct_any (base bm : Nat) (m : Mc) (i : In) (n : Nat) (w : World) (h : Mm w base bm m) (hi : i.n = (n : Int)) (hs : i.name.size ≤ maxLen) (hn : n ≤ 6) (hb0 : base ≤ w.heap.size) (hl : m.l.length ≤ 5000) (hr : m.r ≤ 4096) (hr0 : 0 ≤ m.r) :
  Calls Tryd.prog 167 #[.pointer (some ⟨bm, 0, none⟩), i.val] w (RetT w base bm m i.name n) := by
 obtain ⟨A, c, B, d, R, e, G, f, hM⟩ := h
 obtain ⟨p, hp⟩ : ∃ p, p = m.l.length := ⟨_, rfl⟩
 have Hp := Lib.hid hp
 have hp5 : p ≤ 5000 := by omega
 have HM := Lib.hid hM
 unfold In.val
 rw [hi]
 have hlo := hM.lo
 have hlt := hM.lt
 clear hp hM hi
 generalize hx : RetT w base bm m i.name n = Ret
 have Hx := Lib.hid hx
 clear hx
 go_enter Tryd.func167, Tryd.ntmps167
 go_upto_region 2 with fail
 refine wp_world' (Φ := fun X => Below w.heap.size w X ∧ w.heap.size < X.heap.size ∧ X.cell? ⟨w.heap.size, 4, none⟩ = some (.int .i64 n) ∧ X.ownsRow w.heap.size 90 3 (.slice (some ⟨w.heap.size + 1, 0, none⟩) 1 1) 1 (flatC (topK p i.name n 0)))
  ⟨(basM _ _).alloc (by simp) _, by simp; omega, (World.cell?_alloc_lt _ _ ⟨w.heap.size, 4, none⟩ (by simp)).trans (World.cell?_alloc_mark w #[.int .i64 i.op, .int .i64 i.x, .int .i64 i.a, .string i.name, .int .i64 n, .bool i.neg] 88 (0, 0) 4), by
   have := World.ownsRow_lit (w.alloc (.cells #[.int .i64 i.op, .int .i64 i.x, .int .i64 i.a, .string i.name, .int .i64 n, .bool i.neg] 88)) #[.int .i64 4, .string i.name, .int .i64 n] 1 (base := w.heap.size) (e := 90) (size := 3) (by simp) (by simp [maxLen]) rfl
   rw [show (w.alloc (.cells #[.int .i64 i.op, .int .i64 i.x, .int .i64 i.a, .string i.name, .int .i64 n, .bool i.neg] 88)).heap.size = w.heap.size + 1 by simp] at this
   exact this⟩ ?_
 rintro X ⟨hbX, hsX, c4, hO⟩
 have HO := Lib.hid hO
 have HbX := Lib.hid hbX
 clear hbX hO
 go_wp2
 go_loopw [6, 18] (fun lv iv wr => ∃ (k cap : Nat) (L : Option Addr), k ≤ n ∧ iv = .int .i64 k ∧ lv = .slice L (k + 1) cap ∧ Hid (wr.ownsRow w.heap.size 90 3 (.slice L (k + 1) cap) (k + 1) (flatC (topK p i.name n k))) ∧ Below w.heap.size w wr) (fun _ iv _ => n - (intOf iv).toNat)
 case atStart => exact ⟨0, 1, _, Nat.zero_le _, rfl, rfl, HO, HbX.out⟩
 case round =>
  obtain ⟨k, cap, L, hk, rfl, rfl, hO', hb⟩ := hrel
  clear HO HbX c4 hsX
  have HMr := Lib.hid (HM.out.below hb)
  obtain ⟨y0, y1, y2, y3, y4, y5, yl⟩ := open6 HMr.out.blk
  rw [← Hp.out] at y0
  have Hb := Lib.hid hb
  have hsz := hb.size
  clear hb
  by_cases hlt' : k < n
  ·go_wp2_with (first
    | (at_builtin; go_must (refine wpList_append_sl rfl (.tmp 21) (.tmp 32) 41 rfl w.heap.size 90 Tryd.underlying41 infoS rfl (by omega) (v := .slice L (k + 1) cap) (n := k + 1) rfl (hO'.out.alloc _) rfl (Sl.lit wr _ [.int .i64 1, .string ⟨#[]⟩, .int .i64 ((p : Int) + 1 + (k : Int))] 90 3 1 rfl rfl (by simp [maxLen])) (one3 _ _ _) (by omega) (by omega) (by simp; omega) ?_); intro L2 cap2 w2 hown2 hb2 hgr2 hblk2; have Hown2 := Lib.hid hown2; have Hb2 := Lib.hid ((Hb.out.alloc hsz _).trans hb2); clear hown2 hb2 hgr2 hblk2))
   go_roundw
   case rel =>
    refine ⟨k + 1, cap2, L2, by omega, by go_num, rfl, Lib.hid ?_, Hb2.out⟩
    rw [topK_succ]
    have := Hown2.out
    rw [show ((p + 1 + k : Nat) : Int) = (p : Int) + 1 + (k : Int) by omega]
    exact this
   case measure => simp [intOf]; omega
  ·obtain rfl : k = n := by omega
   have hC : IsC wr L (k + 1) cap (topL p i.name k) := by
    rw [← topK_all]
    exact ⟨Sl.own hO'.out (by omega), by rw [topK_all]; exact topL_wf hs hn hp5⟩
   have hput := kPut_any base bm m L (k + 1) cap (topL p i.name k) wr ⟨A, c, B, d, R, e, G, f, HMr.out⟩ hC (by omega) (by omega) hl hr hr0
   unfold RetP at hput
   rw [topL_len] at hput
   unfold RetT at Hx
   by_cases hf : m.fits (k + 1)
   ·simp only [if_pos hf] at hput Hx
    have Hput := Lib.hid hput
    clear hput hC hO' y0 y1 y2 y3 y4 y5 yl hf
    go_wp2_with (first
     | (go_at_call 170; go_must (refine Hput.out.mono ?_); rintro e w3 ⟨rfl, ⟨A3, c3, B3, d3, R3, e3, G3, f3, hM3⟩, hb3, hk3⟩; obtain ⟨t0, t1, t2, t3, t4, t5, tl⟩ := open6 hM3.blk; have tf := frozen_of hM3.blk 4; have HM3 := Lib.hid hM3; have Hb3 := Lib.hid hb3; have Hk3 := Lib.hid hk3; clear hM3 hb3 hk3))
    change Ret (.returned (.tuple #[.int .i64 (m.l.length : Int), .nilIface])) _
    rw [← Hx.out]
    refine ⟨rfl, ⟨A3, c3, B3, d3, R3, e3, G3, f3, ?_⟩, ?_, ?_⟩
    ·have := HM3.out.next ((m.l.length : Int) + 1)
     rw [Hp.out] at this
     exact this
    ·exact ((Hb.out.mono hb0).trans Hb3.out).setCell hlo _
    ·exact ((MKept.below Hb.out).trans Hk3.out).trans (MKept.set _ _ _ _)
   ·simp only [if_neg hf] at hput Hx
    have Hput := Lib.hid hput
    have tf := frozen_of HMr.out.blk 4
    clear hput hC hO' hf
    go_wp2_with (first
     | (go_at_call 170; go_must (refine Hput.out.mono ?_); rintro e w3 ⟨rfl, rfl⟩))
    change Ret (.returned (.tuple #[.int .i64 0, errV 80])) _
    rw [← Hx.out]
    exact ⟨rfl, (Hb.out.mono hb0).setCell hlo _, (MKept.below Hb.out).trans (MKept.set _ _ _ _)⟩
end Go.Proofs.YtgipiplklaeplaaDoor
