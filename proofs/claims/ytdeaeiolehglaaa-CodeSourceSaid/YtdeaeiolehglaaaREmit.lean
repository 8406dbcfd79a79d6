/- The walk of the document's emit. -/
import Derived.Deep.RegionLaw
import Derived.Deep.RegionHeld3
import Derived.Deep.DeepCutAuto
import Derived.Test.YtdeaeiolehglaaaM0
set_option linter.unusedVariables false
set_option linter.unusedSimpArgs false
namespace Go.Proofs.Ytdeaeiolehglaaa
open Go.RowKit

theorem wp_world' {P : Program} {c : Code} {Q : Exit → Act → World → Prop} {a : Act} {w : World} (Φ : World → Prop) (h : Φ w) (k : ∀ X, Φ X → c.wp P Q a X) : c.wp P Q a w := k w h
/-- a state, and its slices -/
structure StAt (w : World) (A : Option Addr) (n c : Nat) (B : Option Addr) (m d : Nat) (D : Option Addr) (p e : Nat) (s : St) : Prop where
  code : IsK w A n c s.code
  vars : IsI w B m d s.vars
  regs : IsI w D p e s.regs
theorem StAt.below {w w' : World} {A B D : Option Addr} {n c m d p e : Nat} {s : St} (h : StAt w A n c B m d D p e s) (hb : Below w.heap.size w w') : StAt w' A n c B m d D p e s :=
  ⟨IsG.below keepsIn h.code hb, h.vars.below hb, h.regs.below hb⟩
def stVal (A : Option Addr) (n c : Nat) (B : Option Addr) (m d : Nat) (D : Option Addr) (p e : Nat) (next : Nat) : Value := .agg #[.slice A n c, .int .i64 next, .slice B m d, .slice D p e]
/-- the same slice, or a new one -/
def NewOr (w : World) (B0 : Option Addr) (m0 : Nat) (B : Option Addr) (m : Nat) : Prop := (B = B0 ∧ m = m0) ∨ ∀ a, B = some a → w.heap.size ≤ a.block
def RetSt (w : World) (A0 : Option Addr) (n0 : Nat) (B : Option Addr) (m d : Nat) (D : Option Addr) (p q : Nat) (s : St) (e : Ending) (w' : World) : Prop := ∃ A n c, e = .returned (stVal A n c B m d D p q s.next) ∧ StAt w' A n c B m d D p q s ∧ NewOr w A0 n0 A n ∧ Below w.heap.size w w'
theorem one_code {w : World} {l : List In} {vs : List (List Value)} (h1 : vs.length = l.length) (h4 : ∀ (i : Nat) (x : In) (v : List Value), l[i]? = some x → vs[i]? = some v → RIn w x v) : ∀ u ∈ vs.flatten, u.oneCell' = true := by
  intro u hu
  obtain ⟨v, hv, huv⟩ := List.mem_flatten.1 hu
  obtain ⟨j, hj, rfl⟩ := List.getElem_of_mem hv
  obtain ⟨he, _⟩ := h4 j (l[j]'(by omega)) _ (List.getElem?_eq_getElem _) (List.getElem?_eq_getElem hj)
  rw [he] at huv
  exact oneIn _ u huv
set_option maxRecDepth 100000 in
set_option maxHeartbeats 8000000 in
theorem remit_any (s : St) (i : In) (A : Option Addr) (n c : Nat) (B : Option Addr) (m d : Nat) (D : Option Addr) (p e : Nat) (w : World) (h : StAt w A n c B m d D p e s) (hi : i.wf) (hn : n ≤ 100000) :
    Calls Try.prog 36 #[stVal A n c B m d D p e s.next, i.val] w (RetSt w A n B m d D p e (s.emit i)) := by
  unfold stVal In.val
  go_enter Try.func36, Try.ntmps36
  go_upto_region 1 with fail
  refine wp_world' (Φ := fun X => Below w.heap.size w X ∧ w.heap.size + 3 ≤ X.heap.size ∧ X.heap[w.heap.size]? = some (.cells #[.slice A n c, .int .i64 s.next, .slice B m d, .slice D p e] 72 (0, 0)) ∧
      X.heap[w.heap.size + 1]? = some (.cells #[.int .i64 i.op, .int .i64 i.x, .int .i64 i.a, .string i.name, .int .i64 i.n, .bool i.neg] 48 (0, 0)) ∧
      X.heap[w.heap.size + 1 + 1]? = some (.cells #[.slice none 0 0, .int .i64 0, .slice none 0 0, .slice none 0 0] 72 (0, 0)))
    ⟨(((Below.refl _ _).alloc (Nat.le_refl _) _).alloc (by simp) _).alloc (by simp; omega) _, by simp, (alloc_past (by simp; omega)).trans ((alloc_past (by simp)).trans (alloc_at rfl)), (alloc_past (by simp)).trans (alloc_at (by simp)), alloc_at (by simp)⟩ ?_
  rintro X ⟨hbX, hsX, x0, x1, x2⟩
  obtain ⟨b1, hb1⟩ : ∃ b1, b1 = w.heap.size + 1 := ⟨_, rfl⟩
  obtain ⟨b2, hb2⟩ : ∃ b2, b2 = w.heap.size + 1 + 1 := ⟨_, rfl⟩
  obtain ⟨b0, hb0⟩ : ∃ b0, b0 = w.heap.size := ⟨_, rfl⟩
  rw [← hb2] at x2 ⊢
  rw [← hb1] at x1 ⊢
  rw [← hb0] at x0 ⊢
  have hX := h.below hbX
  have hne1 : ¬ b1 = b0 := by omega
  have hne2 : ¬ b0 = b1 := by omega
  have hne3 : ¬ b2 = b0 := by omega
  have hne4 : ¬ b0 = b2 := by omega
  have hl0 : b0 < X.heap.size := by omega
  have hl1 : b1 < X.heap.size := by omega
  have hl2 : b2 < X.heap.size := by omega
  have hw0 : w.heap.size ≤ b0 := by omega
  have hw2 : w.heap.size ≤ b2 := by omega
  have hwX : w.heap.size ≤ X.heap.size := by omega
  clear hb0 hb1 hb2 hsX
  have k0 := cells_of x0 0
  have j0 := cells_of x1 0
  have j1 := cells_of x1 1
  have j2 := cells_of x1 2
  have j3 := cells_of x1 3
  have j4 := cells_of x1 4
  have j5 := cells_of x1 5
  simp at k0 j0 j1 j2 j3 j4 j5
  obtain ⟨vs, v1, v2, hsl, v4⟩ := hX.code.rows
  have hlen := hX.code.len
  have hone : ∀ u ∈ vs.flatten, u.oneCell' = true := one_code v1 v4
  have hbX1 : Below X.heap.size X X := Below.refl _ _
  go_region_law (first
      | (refine step_append_any (by rfl) (.tmp 5) (.tmp 7) 26 (by rfl) X.heap.size 48 Try.underlying26 infoIn (by rfl) (by omega) (by rfl) (Tail.nil _ _ _ _ _) ?_ (by rfl) ?_ hone (by omega) (by omega) ?_ (by intro hq; cases hq) ?_; (focus (intro b hb; cases hb; first | omega | (simp; done) | (simp; omega))); (focus (refine hsl.below ?_; exact by repeat (first | exact Below.refl _ _ | exact hbX1 | refine Below.drew ?_ | refine Below.alloc ?_ ?_ _ | (first | omega | (simp; done) | (simp; omega))))); (focus (first | omega | (simp; done) | (simp; omega))); intro A1 cap1 w1 ht1 hbn1 hap1; (try simp only [Nat.zero_add, List.nil_append] at ht1 ⊢); have hbX2 : Below X.heap.size X w1 := Below.trans (by repeat (first | exact Below.refl _ _ | exact hbX1 | refine Below.drew ?_ | refine Below.alloc ?_ ?_ _ | (first | omega | (simp; done) | (simp; omega)))) hbn1; have hs1 := hbX2.size; have q0 := cells_of ((hbX2.block _ hl1).trans x1) 0; have q1 := cells_of ((hbX2.block _ hl1).trans x1) 1; have q2 := cells_of ((hbX2.block _ hl1).trans x1) 2; have q3 := cells_of ((hbX2.block _ hl1).trans x1) 3; have q4 := cells_of ((hbX2.block _ hl1).trans x1) 4; have q5 := cells_of ((hbX2.block _ hl1).trans x1) 5; simp at q0 q1 q2 q3 q4 q5)
      | (refine step_append_any (xs := vs.flatten) (by rfl) (.tmp 8) (.tmp 10) 26 (by rfl) X.heap.size 48 Try.underlying26 infoIn (by rfl) (by omega) (by rfl) ?_ ?_ (by rfl) ?_ (oneIn i) (by omega) (by omega) ?_ ?_ ?_; (focus (first | exact ht1 | exact ht1.below ((Below.refl _ _).alloc (Nat.le_refl _) _))); (focus (intro b hb; have hq := (hap1.blk b hb).1; first | omega | (simp; omega))); (focus (first | exact Sl.blk (cs := #[.int .i64 i.op, .int .i64 i.x, .int .i64 i.a, .string i.name, .int .i64 i.n, .bool i.neg]) (t := 48) (alloc_at (by first | rfl | (simp; done) | (simp; omega) | omega)) rfl (by simp [maxLen]) | exact Sl.blk (cs := #[.int .i64 i.op, .int .i64 i.x, .int .i64 i.a, .string i.name, .int .i64 i.n, .bool i.neg]) (t := 48) ((hap1.old _ (by first | omega | (simp; done) | (simp; omega)) (by intro a ha; cases ha; first | omega | (simp; done) | (simp; omega))).trans (alloc_at (by first | rfl | (simp; done) | (simp; omega) | omega))) rfl (by simp [maxLen]) | exact Sl.blk (cs := #[.int .i64 i.op, .int .i64 i.x, .int .i64 i.a, .string i.name, .int .i64 i.n, .bool i.neg]) (t := 48) ((hap1.old _ (by first | omega | (simp; done) | (simp; omega)) (by intro a ha; cases ha; first | omega | (simp; done) | (simp; omega))).trans ((alloc_past (by first | omega | (simp; done) | (simp; omega))).trans (alloc_at (by first | rfl | (simp; done) | (simp; omega) | omega)))) rfl (by simp [maxLen]))); (focus (first | omega | (simp; omega))); (focus (exact ht1.none_cap)); intro A2 cap2 w2 ht2 hbn2 hap2; have hbX3 : Below X.heap.size X w2 := Below.trans (by first | exact hbX2 | exact hbX2.alloc (by omega) _) hbn2; have r0 := cells_of ((hbX3.block _ hl1).trans x1) 0; have r1 := cells_of ((hbX3.block _ hl1).trans x1) 1; have r2 := cells_of ((hbX3.block _ hl1).trans x1) 2; have r3 := cells_of ((hbX3.block _ hl1).trans x1) 3; have r4 := cells_of ((hbX3.block _ hl1).trans x1) 4; have r5 := cells_of ((hbX3.block _ hl1).trans x1) 5; have hs3 := hbX3.size; have rc := cells_of ((hbX3.block _ hl0).trans x0) 0; have rf := frozen_of ((hbX3.block _ hl0).trans x0) 0; simp at r0 r1 r2 r3 r4 r5 rc)
      | fail)
  all_goals
    have hA2 : ∀ a, A2 = some a → X.heap.size ≤ a.block := fun a ha => by
      rcases (hap2.blk a ha).2 with ⟨a0, h0, he⟩ | h2
      · rw [he]
        rcases (hap1.blk a0 h0).2 with ⟨a1, h1, he1⟩ | h1
        · cases h1; rw [he1]; first | exact Nat.le_refl _ | (simp; done) | (simp; omega)
        · have h1' : X.heap.size ≤ a0.block := Nat.le_trans (by first | exact Nat.le_refl _ | (simp; done) | (simp; omega)) h1
          exact h1'
      · exact Nat.le_trans (by first | exact hs1 | (simp; omega)) h2
    have z0 := set_block (k := 0) ((hbX3.block _ hl0).trans x0) (.slice A2 (n + 1) cap2)
    simp at z0
    have z2 : (w2.setCell ⟨b0, 0, none⟩ (.slice A2 (n + 1) cap2)).heap[b2]? = _ := (set_other hne3 _).trans ((hbX3.block _ hl2).trans x2)
    have hbY : Below w.heap.size w (w2.setCell ⟨b0, 0, none⟩ (.slice A2 (n + 1) cap2)) := Below.setCell (hbX.trans (hbX3.mono hwX)) hw0 _
    have htY : Tail (w2.setCell ⟨b0, 0, none⟩ (.slice A2 (n + 1) cap2)) X.heap.size 48 6 A2 (n + 1) cap2 (vs.flatten ++ i.flat) := ht2.at_ fun a ha => set_other (by have := hA2 a ha; omega) _
    have hl0Y : b0 < (w2.setCell ⟨b0, 0, none⟩ (.slice A2 (n + 1) cap2)).heap.size := block_lt z0
    have hl2Y : b2 < (w2.setCell ⟨b0, 0, none⟩ (.slice A2 (n + 1) cap2)).heap.size := block_lt z2
    generalize (w2.setCell ⟨b0, 0, none⟩ (.slice A2 (n + 1) cap2)) = Y at *
    clear hap1 hap2 ht1 ht2 hbn1 hbn2 q0 q1 q2 q3 q4 q5 r0 r1 r2 r3 r4 r5 rc rf hbX2 hbX3 x0 x1 x2 k0 j0 j1 j2 j3 j4 j5
    have y0 := cells_of z0 0
    have y1 := cells_of z0 1
    have y2 := cells_of z0 2
    have y3 := cells_of z0 3
    have u0 := cells_of z2 0
    have u1 := cells_of z2 1
    have u2 := cells_of z2 2
    have u3 := cells_of z2 3
    have f0 := frozen_of z2 0
    have f1 := frozen_of z2 1
    have f2 := frozen_of z2 2
    have f3 := frozen_of z2 3
    simp at y0 y1 y2 y3 u0 u1 u2 u3
    clear z0 z2
    go_wp2
    have hbZ := Below.setCell (Below.setCell (Below.setCell (Below.setCell hbY (p := ⟨b2, 0, none⟩) hw2 (.slice A2 (n + 1) cap2)) (p := ⟨b2, 1, none⟩) hw2 (.int .i64 s.next)) (p := ⟨b2, 2, none⟩) hw2 (.slice B m d)) (p := ⟨b2, 3, none⟩) hw2 (.slice D p e)
    have hnA : ∀ a, A2 = some a → a.block ≠ b2 := fun a ha => by have := hA2 a ha; omega
    have htZ := htY.at_ (fun a ha => (set_other (hnA a ha) (.slice D p e)).trans ((set_other (hnA a ha) (.slice B m d)).trans ((set_other (hnA a ha) (.int .i64 s.next)).trans (set_other (hnA a ha) (.slice A2 (n + 1) cap2)))) : ∀ a, A2 = some a → ((((Y.setCell ⟨b2, 0, none⟩ (.slice A2 (n + 1) cap2)).setCell ⟨b2, 1, none⟩ (.int .i64 s.next)).setCell ⟨b2, 2, none⟩ (.slice B m d)).setCell ⟨b2, 3, none⟩ (.slice D p e)).heap[a.block]? = Y.heap[a.block]?)
    refine bodyPost_ret (v := stVal A2 (n + 1) cap2 B m d D p e s.next) (by simp [results, Try.results36, go_sem, stVal, *]) rfl ?_
    exact ⟨A2, n + 1, cap2, rfl, ⟨(TailG.snoc htZ hlen v1 v2 rfl (fun i x v hx hv => v4 i x v hx hv) ⟨rfl, hi⟩).is (by omega), h.vars.below hbZ, h.regs.below hbZ⟩, .inr fun a ha => Nat.le_trans hwX (hA2 a ha), hbZ⟩
end Go.Proofs.Ytdeaeiolehglaaa
