/- The walk of the document's register. -/
import Derived.Deep.RegionLaw
import Derived.StillTailTactics
import Derived.IntWalk
import Derived.Test.YtdeaeiolehglaaaREmit
import Derived.Test.YtdeaeiolehglaaaM0
set_option linter.unusedVariables false
set_option linter.unusedSimpArgs false
namespace Go.Proofs.Ytdeaeiolehglaaa
open Go.RowKit

/-- a state, a register, and whether it is new, are handed back -/
def RetReg (w : World) (A : Option Addr) (n c : Nat) (B0 : Option Addr) (m0 : Nat) (D0 : Option Addr) (p0 : Nat) (s : St) (r : Int) (b : Bool) (e : Ending) (w' : World) : Prop := ∃ B m d D p q, e = .returned (.tuple #[stVal A n c B m d D p q s.next, .int .i64 r, .bool b]) ∧ StAt w' A n c B m d D p q s ∧ NewOr w B0 m0 B m ∧ NewOr w D0 p0 D p ∧ Below w.heap.size w w'

set_option maxRecDepth 100000 in
set_option maxHeartbeats 8000000 in
theorem register_any (s : St) (v : Int) (A : Option Addr) (n c : Nat) (B : Option Addr) (m d : Nat) (D : Option Addr) (p e : Nat) (w : World) (h : StAt w A n c B m d D p e s) (hv : i64 v) (hs : s.fit 100000) :
    Calls Try.prog 56 #[stVal A n c B m d D p e s.next, .int .i64 v] w (RetReg w A n c B m D p (regF s v).1 (regF s v).2.1 (regF s v).2.2) := by
  have hvl := h.vars.len
  have hrl := h.regs.len
  have hsame := hs.same
  have hv1 := hs.vars
  have hplace := Place_any B m d s.vars v
  unfold stVal
  rcases reg_find v s.vars s.regs 0 hs.same with ⟨hl, hx⟩ | ⟨j, r, hx, hj, hl⟩
  · have hreg : regF s v = (s.bump.addv v s.next, (s.next : Int), true) := by
      rcases reg_cases s v hs.same with ⟨_, h2⟩ | ⟨r, _, h2, _⟩
      · exact h2
      · unfold prs at h2; rw [hl] at h2; cases h2
    rw [hreg]
    have hpl : placeI s.vars v = -1 := by rw [placeI, hx]
    rw [hpl] at hplace
    have Hplace := Lib.hid hplace
    have hsn := hs.next
    clear hplace hx hl hreg hpl
    go_enter Try.func56, Try.ntmps56
    go_upto_region 1 with fail
    (refine wp_world' (Φ := fun X => Below w.heap.size w X ∧ w.heap.size + 2 ≤ X.heap.size ∧ X.heap[w.heap.size]? = some (.cells #[.slice A n c, .int .i64 s.next, .slice B m d, .slice D p e] 72 (0, 0)) ∧ X.heap[w.heap.size + 1]? = some (.cells #[.slice none 0 0, .int .i64 0, .slice none 0 0, .slice none 0 0] 72 (0, 0))) ⟨((Below.refl _ _).alloc (Nat.le_refl _) _).alloc (by simp) _, by simp, (alloc_past (by simp)).trans (alloc_at rfl), alloc_at (by simp)⟩ ?_; rintro X ⟨hbX, hsX, x0, x1⟩; obtain ⟨b1, hb1⟩ : ∃ b1, b1 = w.heap.size + 1 := ⟨_, rfl⟩; obtain ⟨b0, hb0⟩ : ∃ b0, b0 = w.heap.size := ⟨_, rfl⟩; rw [← hb1] at x1 ⊢; rw [← hb0] at x0 ⊢; have hne1 : ¬ b1 = b0 := (by omega); have hne2 : ¬ b0 = b1 := (by omega); have hl0 : b0 < X.heap.size := (by omega); have hl1 : b1 < X.heap.size := (by omega); have hw0 : w.heap.size ≤ b0 := (by omega); have hw1 : w.heap.size ≤ b1 := (by omega); have hwX : w.heap.size ≤ X.heap.size := (by omega); clear hb0 hb1 hsX; have y0 := cells_of x0 0; have y1 := cells_of x0 1; have y2 := cells_of x0 2; have y3 := cells_of x0 3; have u0 := cells_of x1 0; have u1 := cells_of x1 1; have u2 := cells_of x1 2; have u3 := cells_of x1 3; have f0 := frozen_of x1 0; have f1 := frozen_of x1 1; have f2 := frozen_of x1 2; have f3 := frozen_of x1 3; simp at y0 y1 y2 y3 u0 u1 u2 u3)
    have hvX := h.vars.below hbX
    have hrX := h.regs.below hbX
    go_wp2_with (first
      | (go_at_call 60; go_must (refine (Hplace.out _ (h.vars.below hbX) (by omega)).mono ?_); rintro e w1 ⟨rfl, rfl⟩)
      | (at_builtin; refine wpList_append_any rfl (.tmp 20) (.tmp 22) 70 rfl X.heap.size 3 Try.underlying70 infoI rfl (by omega) rfl (Tail.nil _ _ _ _ _) (by intro b hb; cases hb; simp) rfl (hvX.sl.below ((Below.refl _ _).alloc (Nat.le_refl _) _)) (oneI _ _) (by omega) (by omega) (by simp) (by intro hq; cases hq) ?_; intro A1 cap1 w1 ht1 hbn1 hap1; (try simp only [Nat.zero_add, List.nil_append] at ht1 ⊢); have hbX2 : Below X.heap.size X w1 := Below.trans ((Below.refl _ _).alloc (Nat.le_refl _) _) hbn1)
      | (at_builtin; refine wpList_append_any (xs := s.vars.map (Value.int .i64)) rfl (.tmp 23) (.tmp 25) 70 rfl X.heap.size 3 Try.underlying70 infoI rfl (by omega) rfl (ht1.below ((Below.refl _ _).alloc (Nat.le_refl _) _)) (by intro b hb; have hq := (hap1.blk b hb).1; simp; omega) rfl (Sl.blk (cs := #[.int .i64 v]) (t := 3) (alloc_at rfl) rfl (by simp [maxLen])) (by simp [Value.oneCell']) (by omega) (by omega) (by have := hbX2.size; simp; omega) ht1.none_cap ?_; intro A2 cap2 w2 ht2 hbn2 hap2; have hbX3 : Below X.heap.size X w2 := Below.trans (hbX2.alloc hbX2.size _) hbn2; have q0 := cells_of ((hbX3.block _ hl0).trans x0) 0; have q1 := cells_of ((hbX3.block _ hl0).trans x0) 1; have q2 := cells_of ((hbX3.block _ hl0).trans x0) 2; have q3 := cells_of ((hbX3.block _ hl0).trans x0) 3; have qf := frozen_of ((hbX3.block _ hl0).trans x0) 2; have hs3 := hbX3.size; simp at q0 q1 q2 q3))
    have hA2 : ∀ a, A2 = some a → X.heap.size ≤ a.block ∧ a.block < w2.heap.size := fun a ha => by
      refine ⟨?_, (hap2.blk a ha).1⟩
      rcases (hap2.blk a ha).2 with ⟨a0, h0, he⟩ | h2
      · rw [he]
        rcases (hap1.blk a0 h0).2 with ⟨a1, h1, he1⟩ | h1
        · cases h1; rw [he1]; exact Nat.le_refl _
        · simp at h1; omega
      · have := hbX2.size; simp at h2; omega
    have z0 := set_block (k := 2) ((hbX3.block _ hl0).trans x0) (.slice A2 (m + 1) cap2)
    simp at z0
    refine wp_world' (Φ := fun Y => Below w.heap.size w Y ∧ Y.heap[b0]? = some (.cells #[.slice A n c, .int .i64 s.next, .slice A2 (m + 1) cap2, .slice D p e] 72 (0, 0)) ∧ Y.heap[b1]? = some (.cells #[.slice none 0 0, .int .i64 0, .slice none 0 0, .slice none 0 0] 72 (0, 0)) ∧
        Tail Y X.heap.size 3 1 A2 (m + 1) cap2 (s.vars.map (Value.int .i64) ++ [.int .i64 v]) ∧ X.heap.size ≤ Y.heap.size ∧ (∀ a, A2 = some a → X.heap.size ≤ a.block ∧ a.block < Y.heap.size))
      ⟨Below.setCell (hbX.trans (hbX3.mono hwX)) hw0 _, z0, (set_other hne1 _).trans ((hbX3.block _ hl1).trans x1), ht2.at_ fun a ha => set_other (by have := (hA2 a ha).1; omega) _, by simp; exact hs3, fun a ha => ⟨(hA2 a ha).1, by simp; exact (hA2 a ha).2⟩⟩ ?_
    rintro Y ⟨hbY, yb0, yb1, htY, hXY, hA2Y⟩
    clear x0 x1 y0 y1 y2 y3 u0 u1 u2 u3 f0 f1 f2 f3 q0 q1 q2 q3 qf hbX2 hbX3 hap1 hap2 ht1 ht2 hbn1 hbn2 z0 hA2 hvX hrX hs3
    have y1 := cells_of yb0 1
    have y3 := cells_of yb0 3
    have hl0 := block_lt yb0
    have hl1 := block_lt yb1
    simp at y1 y3
    have hrY := h.regs.below hbY
    have hbX1 : Below Y.heap.size Y Y := Below.refl _ _
    go_region_law
      (first
        | (refine step_append_any (by rfl) (.tmp 28) (.tmp 30) 70 (by rfl) Y.heap.size 3 Try.underlying70 infoI (by rfl) (by omega) (by rfl) (Tail.nil _ _ _ _ _) ?_ (by rfl) ?_ (oneI .i64 s.regs) (by omega) (by omega) ?_ (by intro hq; cases hq) ?_; (focus (intro b hb; cases hb; first | omega | (simp; done) | (simp; omega))); (focus (refine hrY.sl.below ?_; exact by repeat (first | exact Below.refl _ _ | refine Below.drew ?_ | refine Below.alloc ?_ ?_ _ | (first | omega | (simp; done) | (simp; omega))))); (focus (first | omega | (simp; done) | (simp; omega))); intro A1 cap1 w1 ht1 hbn1 hap1; (try simp only [Nat.zero_add, List.nil_append] at ht1 ⊢); have hbX2 : Below Y.heap.size Y w1 := Below.trans (by repeat (first | exact Below.refl _ _ | refine Below.drew ?_ | refine Below.alloc ?_ ?_ _ | (first | omega | (simp; done) | (simp; omega)))) hbn1; have hs1 := hbX2.size; have q1 := cells_of ((hbX2.block _ hl0).trans yb0) 1; simp at q1)
        | (refine step_append_any (xs := s.regs.map (Value.int .i64)) (by rfl) (.tmp 31) (.tmp 34) 70 (by rfl) Y.heap.size 3 Try.underlying70 infoI (by rfl) (by omega) (by rfl) ?_ ?_ (by rfl) ?_ (news := [.int .i64 s.next]) (by simp [Value.oneCell']) (by omega) (by omega) ?_ ?_ ?_; (focus (first | exact ht1 | exact ht1.below ((Below.refl _ _).alloc (Nat.le_refl _) _))); (focus (intro b hb; have hq := (hap1.blk b hb).1; first | omega | (simp; omega))); (focus (first | exact Sl.blk (cs := #[.int .i64 s.next]) (t := 3) (alloc_at (by first | rfl | (simp; done) | (simp; omega) | omega)) rfl (by simp [maxLen]) | exact Sl.blk (cs := #[.int .i64 s.next]) (t := 3) ((hap1.old _ (by first | omega | (simp; done) | (simp; omega)) (by intro a ha; cases ha; first | omega | (simp; done) | (simp; omega))).trans (alloc_at (by first | rfl | (simp; done) | (simp; omega) | omega))) rfl (by simp [maxLen]) | exact Sl.blk (cs := #[.int .i64 s.next]) (t := 3) ((hap1.old _ (by first | omega | (simp; done) | (simp; omega)) (by intro a ha; cases ha; first | omega | (simp; done) | (simp; omega))).trans ((alloc_past (by first | omega | (simp; done) | (simp; omega))).trans (alloc_at (by first | rfl | (simp; done) | (simp; omega) | omega)))) rfl (by simp [maxLen]))); (focus (first | omega | (simp; omega))); (focus (exact ht1.none_cap)); intro A4 cap4 w4 ht4 hbn4 hap4; have hbX3 : Below Y.heap.size Y w4 := Below.trans (by first | exact hbX2 | exact hbX2.alloc (by omega) _) hbn4; have hs3 := hbX3.size; have r1 := cells_of ((hbX3.block _ hl0).trans yb0) 1; have rc := cells_of ((hbX3.block _ hl0).trans yb0) 3; have rf := frozen_of ((hbX3.block _ hl0).trans yb0) 3; simp at r1 rc)
        | fail)
    all_goals
      have hA4 : ∀ a, A4 = some a → Y.heap.size ≤ a.block := fun a ha => by
        rcases (hap4.blk a ha).2 with ⟨a0, h0, he⟩ | h2
        · rw [he]
          rcases (hap1.blk a0 h0).2 with ⟨a1, h1, he1⟩ | h1
          · cases h1; rw [he1]; first | exact Nat.le_refl _ | (simp; done) | (simp; omega)
          · have h1' : Y.heap.size ≤ a0.block := Nat.le_trans (by first | exact Nat.le_refl _ | (simp; done) | (simp; omega)) h1
            exact h1'
        · exact Nat.le_trans (by first | exact hs1 | (simp; omega)) h2
      have z0 := set_block (k := 3) ((hbX3.block _ hl0).trans yb0) (.slice A4 (p + 1) cap4)
      simp at z0
      have hZ : ∃ Z, Z = w4.setCell ⟨b0, 3, none⟩ (.slice A4 (p + 1) cap4) := ⟨_, rfl⟩
      obtain ⟨Z, hZ⟩ := hZ
      rw [← hZ] at z0 ⊢
      have hbZ : Below w.heap.size w Z := by rw [hZ]; exact Below.setCell (hbY.trans (hbX3.mono (by omega))) hw0 _
      have zb1 : Z.heap[b1]? = some (.cells #[.slice none 0 0, .int .i64 0, .slice none 0 0, .slice none 0 0] 72 (0, 0)) := by rw [hZ]; exact (set_other hne1 _).trans ((hbX3.block _ hl1).trans yb1)
      have htZ2 : Tail Z X.heap.size 3 1 A2 (m + 1) cap2 (s.vars.map (Value.int .i64) ++ [.int .i64 v]) := by
        rw [hZ]
        exact (htY.below hbX3).at_ fun a ha => set_other (by have := (hA2Y a ha).1; omega) _
      have htZ4 : Tail Z Y.heap.size 3 1 A4 (p + 1) cap4 (s.regs.map (Value.int .i64) ++ [.int .i64 s.next]) := by
        rw [hZ]
        exact ht4.at_ fun a ha => set_other (by have := hA4 a ha; omega) _
      have hnw2 : ∀ a, A2 = some a → w.heap.size ≤ a.block := fun a ha => by have := (hA2Y a ha).1; omega
      have hnw4 : ∀ a, A4 = some a → w.heap.size ≤ a.block := fun a ha => by have := hA4 a ha; omega
      have hn2 : ∀ a, A2 = some a → a.block ≠ b0 ∧ a.block ≠ b1 := fun a ha => by have := (hA2Y a ha).1; omega
      have hn4 : ∀ a, A4 = some a → a.block ≠ b0 ∧ a.block ≠ b1 := fun a ha => by have := hA4 a ha; omega
      clear hZ ht4 hbn4 hap4 hbX3 r1 rc rf ht1 hbn1 hap1 hbX2 q1 htY hA2Y hrY hA4 hbX1 yb0 yb1 y1 y3
      have e0 := cells_of z0 0
      have e1 := cells_of z0 1
      have e2 := cells_of z0 2
      have e3 := cells_of z0 3
      have f1 := frozen_of z0 1
      have hl0 := block_lt z0
      have hl1 := block_lt zb1
      simp at e0 e1 e2 e3
      go_upto_region 7 with fail
      refine wp_world' (Φ := fun V => Below w.heap.size w V ∧ V.heap[b0]? = some (.cells #[.slice A n c, .int .i64 (s.next + 1), .slice A2 (m + 1) cap2, .slice A4 (p + 1) cap4] 72 (0, 0)) ∧ V.heap[b1]? = some (.cells #[.slice none 0 0, .int .i64 0, .slice none 0 0, .slice none 0 0] 72 (0, 0)) ∧
          Tail V X.heap.size 3 1 A2 (m + 1) cap2 (s.vars.map (Value.int .i64) ++ [.int .i64 v]) ∧ Tail V Y.heap.size 3 1 A4 (p + 1) cap4 (s.regs.map (Value.int .i64) ++ [.int .i64 s.next]))
        ⟨Below.setCell hbZ hw0 _, by have := set_block (k := 1) z0 (.int .i64 (s.next + 1)); simp at this; exact this, (set_other hne1 _).trans zb1, htZ2.at_ fun a ha => set_other (hn2 a ha).1 _, htZ4.at_ fun a ha => set_other (hn4 a ha).1 _⟩ ?_
      rintro V ⟨hbV, v0, v1, htV2, htV4⟩
      clear hbZ z0 zb1 htZ2 htZ4 e0 e1 e2 e3 f1
      have e0 := cells_of v0 0
      have e1 := cells_of v0 1
      have e2 := cells_of v0 2
      have e3 := cells_of v0 3
      have u0 := cells_of v1 0
      have u1 := cells_of v1 1
      have u2 := cells_of v1 2
      have u3 := cells_of v1 3
      have g0 := frozen_of v1 0
      have g1 := frozen_of v1 1
      have g2 := frozen_of v1 2
      have g3 := frozen_of v1 3
      have hl0 := block_lt v0
      have hl1 := block_lt v1
      simp at e0 e1 e2 e3 u0 u1 u2 u3
      go_region_held3 (fun w' => w'.cell? ⟨b0, 0, none⟩ = some (.slice A n c) ∧ w'.cell? ⟨b0, 1, none⟩ = some (.int .i64 (s.next + 1)) ∧ w'.cell? ⟨b0, 2, none⟩ = some (.slice A2 (m + 1) cap2) ∧ w'.cell? ⟨b0, 3, none⟩ = some (.slice A4 (p + 1) cap4))
        (go_keep) (fail)
      go_wp2
      have hbW := (Below.setCell (Below.setCell (Below.setCell (Below.setCell hbV (p := ⟨b1, 0, none⟩) hw1 (.slice A n c)) (p := ⟨b1, 1, none⟩) hw1 (.int .i64 (s.next + 1))) (p := ⟨b1, 2, none⟩) hw1 (.slice A2 (m + 1) cap2)) (p := ⟨b1, 3, none⟩) hw1 (.slice A4 (p + 1) cap4)).drew
      have hW2 : ∀ (g : Nat), g ≠ b1 → ((((V.setCell ⟨b1, 0, none⟩ (.slice A n c)).setCell ⟨b1, 1, none⟩ (.int .i64 (s.next + 1))).setCell ⟨b1, 2, none⟩ (.slice A2 (m + 1) cap2)).setCell ⟨b1, 3, none⟩ (.slice A4 (p + 1) cap4)).drew.heap[g]? = V.heap[g]? := fun g hg => (set_other hg _).trans ((set_other hg _).trans ((set_other hg _).trans (set_other hg _)))
      have hwr : IntKind.i64.wrap (s.next : Int) = s.next := IntWalk.i64_in _ (by omega)
      refine bodyPost_ret (v := .tuple #[stVal A n c A2 (m + 1) cap2 A4 (p + 1) cap4 (s.next + 1), .int .i64 s.next, .bool true]) (by simp [results, Try.results56, go_sem, stVal, *]) rfl ?_
      refine ⟨A2, m + 1, cap2, A4, p + 1, cap4, rfl, ⟨IsG.below keepsIn h.code hbW, ⟨?_, ?_⟩, ⟨?_, ?_⟩⟩, .inr hnw2, .inr hnw4, hbW⟩
      · have := (htV2.at_ fun a ha => hW2 _ (hn2 a ha).2).sl (by omega)
        simpa [St.addv, St.bump] using this
      · intro x hx
        simp [St.addv, St.bump] at hx
        rcases hx with hx | rfl
        · exact h.vars.wf x hx
        · exact hv
      · have := (htV4.at_ fun a ha => hW2 _ (hn4 a ha).2).sl (by omega)
        simpa [St.addv, St.bump] using this
      · intro x hx
        simp [St.addv, St.bump] at hx
        rcases hx with hx | rfl
        · exact h.regs.wf x hx
        · exact i64_small (by omega) (by omega)
  · have hreg : regF s v = (s, r, false) := by
      rcases reg_cases s v hs.same with ⟨h1, _⟩ | ⟨r', _, h2, h3⟩
      · unfold prs at h1; rw [hl] at h1; cases h1
      · unfold prs at h2; rw [hl] at h2
        simp only [Option.some.injEq, Value.int.injEq, true_and] at h2
        rw [h3, h2]
    rw [hreg]
    have hpl : placeI s.vars v = j := by rw [placeI, hx]; omega
    rw [hpl] at hplace
    have Hplace := Lib.hid hplace
    have hjm : j < p := by have := (List.getElem?_eq_some_iff.1 hj).1; omega
    clear hplace hx hl hreg hpl
    go_enter Try.func56, Try.ntmps56
    go_upto_region 1 with fail
    (refine wp_world' (Φ := fun X => Below w.heap.size w X ∧ w.heap.size + 2 ≤ X.heap.size ∧ X.heap[w.heap.size]? = some (.cells #[.slice A n c, .int .i64 s.next, .slice B m d, .slice D p e] 72 (0, 0)) ∧ X.heap[w.heap.size + 1]? = some (.cells #[.slice none 0 0, .int .i64 0, .slice none 0 0, .slice none 0 0] 72 (0, 0))) ⟨((Below.refl _ _).alloc (Nat.le_refl _) _).alloc (by simp) _, by simp, (alloc_past (by simp)).trans (alloc_at rfl), alloc_at (by simp)⟩ ?_; rintro X ⟨hbX, hsX, x0, x1⟩; obtain ⟨b1, hb1⟩ : ∃ b1, b1 = w.heap.size + 1 := ⟨_, rfl⟩; obtain ⟨b0, hb0⟩ : ∃ b0, b0 = w.heap.size := ⟨_, rfl⟩; rw [← hb1] at x1 ⊢; rw [← hb0] at x0 ⊢; have hne1 : ¬ b1 = b0 := (by omega); have hne2 : ¬ b0 = b1 := (by omega); have hl0 : b0 < X.heap.size := (by omega); have hl1 : b1 < X.heap.size := (by omega); have hw0 : w.heap.size ≤ b0 := (by omega); have hw1 : w.heap.size ≤ b1 := (by omega); have hwX : w.heap.size ≤ X.heap.size := (by omega); clear hb0 hb1 hsX; have y0 := cells_of x0 0; have y1 := cells_of x0 1; have y2 := cells_of x0 2; have y3 := cells_of x0 3; have u0 := cells_of x1 0; have u1 := cells_of x1 1; have u2 := cells_of x1 2; have u3 := cells_of x1 3; have f0 := frozen_of x1 0; have f1 := frozen_of x1 1; have f2 := frozen_of x1 2; have f3 := frozen_of x1 3; simp at y0 y1 y2 y3 u0 u1 u2 u3)
    have hrX := h.regs.below hbX
    obtain ⟨bD, offD, rfl, hbD0, _, hcD0⟩ := h.regs.at_ hj
    have hbD : bD < X.heap.size := Nat.lt_of_lt_of_le hbD0 hbX.size
    have hcD := ((bcell hbX).1 bD (offD + j) hbD0).trans hcD0
    have hcapD := hrX.sl.hcap
    clear hrX hj
    go_wp2_with (first | (go_at_call 60; go_must (refine (Hplace.out _ (h.vars.below hbX) (by omega)).mono ?_); rintro e w1 ⟨rfl, rfl⟩))
    have hnr : ¬ bD = b1 := by omega
    have hnr2 : ¬ b1 = bD := by omega
    go_region_held3 (fun w' => w'.cell? ⟨b0, 0, none⟩ = some (.slice A n c) ∧ w'.cell? ⟨b0, 1, none⟩ = some (.int .i64 s.next) ∧ w'.cell? ⟨b0, 2, none⟩ = some (.slice B m d) ∧ w'.cell? ⟨b0, 3, none⟩ = some (.slice (some ⟨bD, offD, none⟩) p e) ∧ w'.cell? ⟨bD, offD + j, none⟩ = some (.int .i64 r))
      (go_keep) (fail)
    have hbd := hbX
    have hbZ := Below.setCell (Below.setCell (Below.setCell (Below.setCell hbd (p := ⟨b1, 0, none⟩) hw1 (.slice A n c)) (p := ⟨b1, 1, none⟩) hw1 (.int .i64 s.next)) (p := ⟨b1, 2, none⟩) hw1 (.slice B m d)) (p := ⟨b1, 3, none⟩) hw1 (.slice (some ⟨bD, offD, none⟩) p e)
    go_wp2
    refine bodyPost_ret (v := .tuple #[stVal A n c B m d (some ⟨bD, offD, none⟩) p e s.next, .int .i64 r, .bool false]) (by simp [results, Try.results56, go_sem, stVal, *]) rfl ?_
    exact ⟨B, m, d, some ⟨bD, offD, none⟩, p, e, rfl, h.below hbZ.drew, .inl ⟨rfl, rfl⟩, .inl ⟨rfl, rfl⟩, hbZ.drew⟩
end Go.Proofs.Ytdeaeiolehglaaa
