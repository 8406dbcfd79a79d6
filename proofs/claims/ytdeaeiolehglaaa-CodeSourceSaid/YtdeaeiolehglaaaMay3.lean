/- May, and the document's Compile of what may not be, for great clauses too. -/
import Derived.Test.YtdeaeiolehglaaaMay2
set_option linter.unusedVariables false
set_option linter.unusedSimpArgs false
namespace Go.Proofs.Ytdeaeiolehglaaa
open Go.RowKit

theorem rMay_big (A : Option Addr) (n cap : Nat) (t : List C) (B : Option Addr) (m d : Nat) (b : List (Bool × List C)) (w : World) (h : IsC w A n cap t) (hB : IsLs w B m d b) (hn : n ≤ 100000) (hm : m ≤ 1000) (hs : ∀ x ∈ b, x.2.length ≤ 100000) :
    Calls Try.prog 23 #[.agg #[.slice A n cap, .slice B m d]] w (RetV w (.bool (mayB (t, b)))) := by
  have hal : Below w.heap.size w (w.alloc (.cells #[.slice A n cap, .slice B m d] 25)) := (Below.refl _ _).alloc (Nat.le_refl _) _
  have hml := hB.len
  have Hml := Lib.hid hml
  clear hml
  go_enter Try.func23, Try.ntmps23
  go_upto_region 1 with fail
  refine wp_world (Φ := fun X => Below w.heap.size w X ∧ X.heap[w.heap.size]? = some (.cells #[.slice A n cap, .slice B m d] 25 (0, 0))) ⟨hal, alloc_at rfl⟩ ?_
  rintro X ⟨hbX, x0⟩
  have hl0 := block_lt x0
  obtain ⟨g, hg⟩ : ∃ g, g = w.heap.size := ⟨_, rfl⟩
  rw [← hg] at x0 hl0 ⊢
  have hgw : w.heap.size ≤ g := by omega
  clear hg
  go_wp2
  go_loopw [3] (fun i wr => ∃ k : Nat, k ≤ m ∧ i = .int .i64 k ∧ Hid ((b.drop k).all (fun l => atomB l.2) = b.all (fun l => atomB l.2)) ∧ Below X.heap.size X wr) (fun i _ => m - (intOf i).toNat)
  case atStart => exact ⟨0, Nat.zero_le _, rfl, rfl, Below.refl _ _⟩
  case round =>
    obtain ⟨k, hk, rfl, hres, hb⟩ := hrel
    have y0 := (hb.cell (p := ⟨g, 0, none⟩) hl0).trans (cells_of x0 0)
    have y1 := (hb.cell (p := ⟨g, 1, none⟩) hl0).trans (cells_of x0 1)
    simp at y0 y1
    have hbw := hbX.trans (hb.mono hbX.size)
    have hlg : g < wr.heap.size := Nat.lt_of_lt_of_le hl0 hb.size
    by_cases hlt : k < m
    · obtain ⟨x, hxk⟩ := hB.get hlt
      obtain ⟨bb, off, v, rfl, hbb, _, ⟨A', n', c', rfl, hx⟩, hcells⟩ := hB.at_ hxk
      have h0 := hcells 0 _ rfl
      have h1 := hcells 1 _ rfl
      have hd := drop_get hxk
      have hxs := hs x (List.mem_of_getElem? hxk)
      have hx' := hx.below hbw
      have hxl := hx.len
      have Hd := Lib.hid hd
      obtain ⟨hc, hf⟩ := bcell hbw
      have g1 := (hc bb _ hbb).trans h1
      have hcap := hB.cap_le
      have hbb2 : bb < wr.heap.size := Nat.lt_of_lt_of_le hbb hbw.size
      clear hxk hd hcells h0 h1 hc hf
      cases ho : atomB x.2
      all_goals
        have hg := rAtom_any A' n' c' x.2 wr hx' (by omega)
        rw [ho] at hg
        have Ho := Lib.hid ho
        have Hg := Lib.hid hg
        clear ho hg
        go_wp2_with (first | (go_at_call 44; go_must (refine Hg.out.mono ?_); rintro e w1 ⟨rfl, hb1⟩))
      · go_ret
        have hall : b.all (fun l => atomB l.2) = false := by have := hres.out; rw [Hd.out, List.all_cons, Ho.out, Bool.false_and] at this; exact this.symm
        exact ⟨ret_bool (by rw [may_raw, hall]; simp), hbw.trans (hb1.mono hbw.size)⟩
      · go_roundw
        case rel => exact ⟨k + 1, by omega, by go_num, by have := hres.out; rw [Hd.out, List.all_cons, Ho.out, Bool.true_and] at this; exact this, hb.trans (hb1.mono hb.size)⟩
        case measure => simp [intOf]; omega
    · have hall : b.all (fun l => atomB l.2) = true := by have := hres.out; rw [drop_end Hml.out hlt] at this; simpa using this.symm
      have hg := rAtom_any A n cap t wr (h.below hbw) (by omega)
      have Hall := Lib.hid hall
      clear hall
      cases ho : atomB t
      all_goals
        rw [ho] at hg
        have Ho := Lib.hid ho
        have Hg := Lib.hid hg
        clear ho hg
      · go_wp2_with (first | (go_at_call 44; go_must (refine Hg.out.mono ?_); rintro e w1 ⟨rfl, hb1⟩))
        go_ret
        exact ⟨ret_bool (by rw [may_raw, Ho.out]; simp), hbw.trans (hb1.mono hbw.size)⟩
      · have hq : decide ((m : Int) ≤ 8) = decide (m ≤ 8) := decide_eq_decide.2 (by omega)
        go_wp2_with (first | (go_at_call 44; go_must (refine Hg.out.mono ?_); rintro e w1 ⟨rfl, hb1⟩; have q0 := (hb1.cell (p := ⟨g, 0, none⟩) hlg).trans y0; have q1 := (hb1.cell (p := ⟨g, 1, none⟩) hlg).trans y1; have hlg1 := Nat.lt_of_lt_of_le hlg hb1.size))
        go_ret
        exact ⟨ret_bool (by rw [may_raw, Ho.out, Hall.out, Hml.out]; simp [hq]), hbw.trans (hb1.mono hbw.size)⟩

set_option maxRecDepth 100000 in
set_option maxHeartbeats 2000000 in
theorem rcompile_nob (A : Option Addr) (n cap : Nat) (t : List C) (B : Option Addr) (m d : Nat) (b : List (Bool × List C)) (w : World) (h : IsC w A n cap t) (hB : IsLs w B m d b) (hn : n ≤ 100000) (hm : m ≤ 1000) (hs : ∀ x ∈ b, x.2.length ≤ 100000) (hno : mayB (t, b) = false) :
    Calls Try.prog 16 #[.agg #[.slice A n cap, .slice B m d]] w (RetV w (.tuple #[.slice none 0 0, .int .i64 1])) := by
  have hal : Below w.heap.size w (w.alloc (.cells #[.slice A n cap, .slice B m d] 25)) := (Below.refl _ _).alloc (Nat.le_refl _) _
  have hmay := rMay_big A n cap t B m d b _ (h.below hal) (IsG.below keepsLit hB hal) hn hm hs
  rw [hno] at hmay
  have Hmay := Lib.hid hmay
  clear hmay
  go_enter Try.func16, Try.ntmps16
  go_wp2_with (first | (go_at_call 23; go_must (refine Hmay.out.mono ?_); rintro e w1 ⟨rfl, hb1⟩))
  go_ret2
  exact ⟨rfl, hal.trans (hb1.mono hal.size)⟩
end Go.Proofs.Ytdeaeiolehglaaa
