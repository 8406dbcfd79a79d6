/- The walk of the closure of the code's Unify: a variable bound. -/
import Derived.Test.YtlndjooddkjnoaaB1
import Derived.Test.YtlndjooddkjnoaaHU1
set_option linter.unusedVariables false
set_option linter.unusedSimpArgs false
namespace Go.Proofs.Ytlndjooddkjnoaa
open Go.RowKit

/-- the heap that is made -/
structure Gu (w : World) (base gb : Nat) (l : List C) (tr : List Int) (r : Int) : Prop where
  has : ∃ A n c B m d, base ≤ gb ∧ w.heap[gb]? = some (.cells #[.slice A n c, .slice B m d, .int .i64 r] 25 (0, 0)) ∧ w.ownsRow base 68 3 (.slice A n c) n (flatC l) ∧ w.ownsRow base 3 1 (.slice B m d) m (tr.map (Value.int .i64))
  wfc : ∀ c ∈ l, c.wf
  wfi : ∀ x ∈ tr, i64 x
/-- blocks of other kinds stay -/
structure GKept (w w' : World) (gb : Nat) : Prop where
  size : w.heap.size ≤ w'.heap.size
  cells : ∀ (g : Nat) cs t, t ≠ 68 → t ≠ 3 → g ≠ gb → w.heap[g]? = some (.cells cs t (0, 0)) → w'.heap[g]? = some (.cells cs t (0, 0))
  map : ∀ (g : Nat) es k, w.heap[g]? = some (Obj.map es k) → w'.heap[g]? = some (Obj.map es k)
theorem Gu.below {w w' : World} {base gb : Nat} {l : List C} {tr : List Int} {r : Int} (h : Gu w base gb l tr r) (hb : Below w.heap.size w w') : Gu w' base gb l tr r := by
  obtain ⟨A, n, c, B, m, d, h1, h2, h3, h4⟩ := h.has
  exact ⟨⟨A, n, c, B, m, d, h1, (hb.block gb (block_lt h2)).trans h2, own_below h3 hb, own_below h4 hb⟩, h.wfc, h.wfi⟩
theorem heap_ne : 25 ≠ 68 ∧ 25 ≠ 3 ∧ 68 ≠ 3 := by decide
theorem setN_bnd (l : List C) (p q : Nat) : setN l p q = bnd l p q := rfl
def RetBind (w : World) (base gb : Nat) (l : List C) (tr : List Int) (r : Int) (p q : Nat) (e : Ending) (w' : World) : Prop := e = .returned (.tuple #[]) ∧ Gu w' base gb (bnd l p q) (tr ++ [(p : Int)]) r ∧ Below base w w' ∧ GKept w w' gb
set_option maxRecDepth 100000 in
set_option maxHeartbeats 2000000 in
theorem hbind_any (base gb : Nat) (l : List C) (tr : List Int) (r : Int) (p q : Nat) (w : World) (h : Gu w base gb l tr r) (hb0 : base ≤ w.heap.size) (hp : p < l.length) (hq : q ≤ 1000000) (hl : l.length ≤ 100000) (ht : tr.length ≤ 100000) :
    Calls Try.prog 61 #[.int .i64 p, .int .i64 q, .pointer (some ⟨gb, 0, none⟩)] w (RetBind w base gb l tr r p q) := by
  obtain ⟨A, n, c, B, m, d, g1, g2, g3, g4⟩ := h.has
  have hwfc := h.wfc
  have hwfi := h.wfi
  have hln := g3.1
  rw [flatC_len] at hln
  have hlm := g4.1
  rw [List.length_map, Nat.mul_one] at hlm
  obtain ⟨ga, xv, rfl, r0, r1, r2, r3, r4, r5, r6⟩ := own_setn (i := p) (q := q) g3 (by omega) (by omega)
  unfold maxLen at r5
  obtain ⟨y0, y1, y2, yl⟩ := open3 g2
  have hne1 := own_ne g3 g2 (by intro cur he; injection he with f1 f2 f3; exact heap_ne.1 f2) _ rfl
  have hne2 := own_ne g4 g2 (by intro cur he; injection he with f1 f2 f3; exact heap_ne.2.1 f2)
  simp only at hne1
  have hgga : ¬ gb = ga := fun e => hne1 e.symm
  have hpn : p < n := by omega
  have hmm : m ≤ 100000 := by omega
  have g2' : (w.setCell ⟨ga, p * 3 + 2, none⟩ (.int .i64 (q : Int))).heap[gb]? = some (.cells #[.slice (some ⟨ga, 0, none⟩) n c, .slice B m d, .int .i64 r] 25 (0, 0)) := (set_other hgga _).trans g2
  obtain ⟨z0, z1, z2, zl⟩ := open3 g2'
  have zf := frozen_of g2' 1
  have hbS : Below base w (w.setCell ⟨ga, p * 3 + 2, none⟩ (.int .i64 (q : Int))) := Below.setCell (p := ⟨ga, p * 3 + 2, none⟩) (Below.refl base w) r2 _
  obtain ⟨_, cura, hca⟩ := own0_typ (.inr g3) (show 0 < c by omega) _ rfl
  simp only at hca
  have hneB : ∀ b, B = some b → b.block ≠ ga := by
    intro b hb he
    rw [← he] at hca
    exact own_ne g4 hca (by intro cur he; injection he with f1 f2 f3; exact heap_ne.2.2 f2) b hb rfl
  have g4' : (w.setCell ⟨ga, p * 3 + 2, none⟩ (.int .i64 (q : Int))).ownsRow base 3 1 (.slice B m d) m (tr.map (Value.int .i64)) := own_at g4 (fun b hb => set_other (hneB b hb) _)
  have hszS : (w.setCell ⟨ga, p * 3 + 2, none⟩ (.int .i64 (q : Int))).heap.size = w.heap.size := by simp
  have Hca := Lib.hid hca
  have G2o := Lib.hid g2
  have G4o := Lib.hid g4
  have G2' := Lib.hid g2'
  have G4' := Lib.hid g4'
  have R6 := Lib.hid r6
  have HbS := Lib.hid hbS
  have Hne2 := Lib.hid hne2
  have HneB := Lib.hid hneB
  have H := Lib.hid h
  clear hca g2 g3 g4 g2' g4' r6 hbS hne2 hneB hwfc hwfi h
  go_enter Try.func61, Try.ntmps61
  go_wp2_with (first
    | (at_builtin; go_must (refine wpList_append_sl rfl (.tmp 12) (.tmp 14) 23 rfl base 3 Try.underlying23 infoI rfl (by omega) rfl (G4'.out.alloc _) rfl (Sl.lit (w.setCell ⟨ga, p * 3 + 2, none⟩ (.int .i64 (q : Int))) _ [.int .i64 (p : Int)] 3 1 1 (by simp) rfl (by simp [maxLen])) (one1 rfl) (by omega) (by omega) (by simp; omega) ?_); intro B2 cap2 w2 hown2 hb2 hgr2 hblk2; have x9 := (grown_block (g := gb) hgr2 (by simp; omega) Hne2.out).trans ((alloc_past zl).trans G2'.out); obtain ⟨s0, s1, s2, sl⟩ := open3 x9; have sf := frozen_of x9 1))
  go_end0
  have x10 : (w2.setCell ⟨gb, 1, none⟩ (.slice B2 (m + 1) cap2)).heap[gb]? = some (.cells #[.slice (some ⟨ga, 0, none⟩) n c, .slice B2 (m + 1) cap2, .int .i64 r] 25 (0, 0)) := by
    have := set_block (k := 1) x9 (.slice B2 (m + 1) cap2); simpa using this
  have hkeep : ∀ g x, w.heap[g]? = some x → g ≠ ga → g ≠ gb → (∀ b, B = some b → b.block ≠ g) → (w2.setCell ⟨gb, 1, none⟩ (.slice B2 (m + 1) cap2)).heap[g]? = some x := by
    intro g x hx n1 n2 n3
    have hlt := block_lt hx
    rw [set_other n2, grown_block (g := g) hgr2 (by simp; omega) n3, alloc_past (by rw [hszS]; exact hlt), set_other n1]
    exact hx
  have hown3 : w2.ownsRow base 68 3 (.slice (some ⟨ga, 0, none⟩) n c) n (flatC (setN l p q)) := own_at R6.out (fun a ha => by
    cases ha
    exact (grown_block (g := ga) hgr2 (by simp; omega) HneB.out).trans (alloc_past (by rw [hszS]; exact r3)))
  refine ⟨rfl, ⟨⟨some ⟨ga, 0, none⟩, n, c, B2, m + 1, cap2, g1, x10, ?_, ?_⟩, ?_, ?_⟩, ?_, ⟨?_, ?_, ?_⟩⟩
  · rw [← setN_bnd]
    exact own_at hown3 (fun a ha => by cases ha; exact set_other (fun e => hgga e.symm) _)
  · rw [List.map_append]
    exact own_at hown2 (fun a ha => set_other (own_ne hown2 x9 (by intro cur he; injection he with f1 f2 f3; exact heap_ne.2.1 f2) a ha) _)
  · exact setN_wf H.out.wfc hp hq
  · intro x hx
    rcases List.mem_append.1 hx with hx | hx
    · exact H.out.wfi x hx
    · simp at hx; subst hx; unfold i64; omega
  · exact (HbS.out.trans (((Below.refl base _).alloc (by rw [hszS]; exact hb0) _).trans hb2)).setCell g1 _
  · have h1 := hb2.size
    simp at h1 ⊢
    omega
  · intro g cs t n1 n2 n3 hx
    refine hkeep g _ hx ?_ n3 (own_ne G4o.out hx (by intro cur he; injection he with f1 f2 f3; exact n2 f2))
    rintro rfl
    rw [Hca.out] at hx
    injection hx with hx
    injection hx with f1 f2 f3
    exact n1 f2.symm
  · intro g es k hx
    refine hkeep g _ hx ?_ ?_ (own_ne G4o.out hx (by intro cur he; cases he))
    · rintro rfl
      rw [Hca.out] at hx
      cases hx
    · rintro rfl
      rw [G2o.out] at hx
      cases hx
end Go.Proofs.Ytlndjooddkjnoaa
