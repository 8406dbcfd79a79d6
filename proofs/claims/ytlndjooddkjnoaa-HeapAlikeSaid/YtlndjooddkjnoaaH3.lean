/- The walks of the document's small functions of heaps: Is, Bound, Follow, Leads. -/
import Derived.Test.YtlndjooddkjnoaaB3
set_option linter.unusedVariables false
set_option linter.unusedSimpArgs false
namespace Go.Proofs.Ytlndjooddkjnoaa
open Go.RowKit

set_option maxHeartbeats 400000 in
theorem qIs_any (A B : Option Addr) (n c m d : Nat) (r x : Int) (w : World) (hn : n ≤ 100000) :
    Calls Try.prog 32 #[.agg #[.slice A n c, .slice B m d, .int .i64 r], .int .i64 x] w (RetV w (.bool (decide (0 ≤ x) && decide (x < (n : Int))))) := by
  by_cases h1 : 0 ≤ x
  · go_enter Try.func32, Try.ntmps32
    go_wp2
    go_ret
    exact ⟨ret_bool (by simp [h1]), (Below.refl _ _).alloc (Nat.le_refl _) _⟩
  · have h2 : ¬ (x ≥ 0) := h1
    have hd : (decide (0 ≤ x) && decide (x < (n : Int))) = false := by simp; omega
    have Hd := Lib.hid hd
    clear hd h1
    go_enter Try.func32, Try.ntmps32
    go_wp2
    go_ret
    exact ⟨ret_bool Hd.out.symm, (Below.refl _ _).alloc (Nat.le_refl _) _⟩
theorem qIs_yes (A B : Option Addr) (n c m d : Nat) (r : Int) (p : Nat) (w : World) (hn : n ≤ 100000) (hp : p < n) :
    Calls Try.prog 32 #[.agg #[.slice A n c, .slice B m d, .int .i64 r], .int .i64 p] w (RetV w (.bool true)) :=
  (qIs_any A B n c m d r p w hn).mono fun e w' ⟨h1, h2⟩ => ⟨h1.trans (ret_bool (by simp; omega)), h2⟩
theorem hwithin_any (A B : Option Addr) (n c m d : Nat) (r x : Int) (w : World) (hn : n ≤ 100000) :
    Calls Try.prog 42 #[.agg #[.slice A n c, .slice B m d, .int .i64 r], .int .i64 x] w (RetV w (.bool (decide (0 ≤ x) && decide (x < (n : Int))))) := by
  by_cases h1 : 0 ≤ x
  · go_enter Try.func42, Try.ntmps42
    go_wp2
    go_ret
    exact ⟨ret_bool (by simp [h1]), (Below.refl _ _).alloc (Nat.le_refl _) _⟩
  · have h2 : ¬ (x ≥ 0) := h1
    have hd : (decide (0 ≤ x) && decide (x < (n : Int))) = false := by simp; omega
    have Hd := Lib.hid hd
    clear hd h1
    go_enter Try.func42, Try.ntmps42
    go_wp2
    go_ret
    exact ⟨ret_bool Hd.out.symm, (Below.refl _ _).alloc (Nat.le_refl _) _⟩

set_option maxHeartbeats 1000000 in
/-- at a slot's place -/
theorem qBound_yes (A B : Option Addr) (n c m d : Nat) (r : Int) (l : List C) (p : Nat) (w : World) (h : IsC w A n c l) (hn : n ≤ 100000) (hp : p < n) :
    Calls Try.prog 48 #[.agg #[.slice A n c, .slice B m d, .int .i64 r], .int .i64 p] w (RetV w (.bool (bndB l p))) := by
  obtain ⟨x, hc⟩ := h.get hp
  obtain ⟨b, off, rfl, hb, hwf, h0, h1, h2⟩ := h.at_ hc
  have hs := sAt_get hc
  have Hs := Lib.hid hs
  have his := fun w => qIs_yes (some ⟨b, off, none⟩) B n c m d r p w hn hp
  have His := Lib.hid his
  clear hs hc his
  have hb0 : Below w.heap.size w (w.alloc (.cells #[.slice (some ⟨b, off, none⟩) n c, .slice B m d, .int .i64 r] 25)) := (Below.refl _ _).alloc (Nat.le_refl _) _
  have hx0 : (w.alloc (.cells #[.slice (some ⟨b, off, none⟩) n c, .slice B m d, .int .i64 r] 25)).heap[w.heap.size]? = some (.cells #[.slice (some ⟨b, off, none⟩) n c, .slice B m d, .int .i64 r] 25 (0, 0)) := alloc_at rfl
  have Hx0 := Lib.hid hx0
  clear hx0
  by_cases k : x.kind = 1
  · have hk : (x.kind == 1) = true := by simp [k]
    have Hk := Lib.hid hk
    by_cases e : x.n = (p : Int)
    · have he : (x.n == (p : Int)) = true := by simp [e]
      have he2 : (x.n != (p : Int)) = false := by simp [e]
      have He := Lib.hid he
      clear k e
      go_enter Try.func48, Try.ntmps48
      go_wp2_with (first | (go_at_call 32; go_must (refine (His.out _).mono ?_); rintro e w1 ⟨rfl, hb1⟩; have x1 := (hb1.block w.heap.size (by simp)).trans Hx0.out; obtain ⟨y0, y1, y2, yl⟩ := open3 x1; clear x1; replace hb1 := hb0.trans (hb1.mono hb0.size); obtain ⟨hc, hf⟩ := bcell hb1))
      go_ret
      exact ⟨ret_bool (by simp only [bndB, Hs.out, Hk.out, He.out]; rfl), hb1⟩
    · have he : (x.n == (p : Int)) = false := by simp [e]
      have he2 : (x.n != (p : Int)) = true := by simp [e]
      have He := Lib.hid he
      clear k e
      go_enter Try.func48, Try.ntmps48
      go_wp2_with (first | (go_at_call 32; go_must (refine (His.out _).mono ?_); rintro e w1 ⟨rfl, hb1⟩; have x1 := (hb1.block w.heap.size (by simp)).trans Hx0.out; obtain ⟨y0, y1, y2, yl⟩ := open3 x1; clear x1; replace hb1 := hb0.trans (hb1.mono hb0.size); obtain ⟨hc, hf⟩ := bcell hb1))
      go_ret
      exact ⟨ret_bool (by simp only [bndB, Hs.out, Hk.out, He.out]; rfl), hb1⟩
  · have hk : (x.kind == 1) = false := by simp [k]
    have Hk := Lib.hid hk
    clear k
    go_enter Try.func48, Try.ntmps48
    go_wp2_with (first | (go_at_call 32; go_must (refine (His.out _).mono ?_); rintro e w1 ⟨rfl, hb1⟩; have x1 := (hb1.block w.heap.size (by simp)).trans Hx0.out; obtain ⟨y0, y1, y2, yl⟩ := open3 x1; clear x1; replace hb1 := hb0.trans (hb1.mono hb0.size); obtain ⟨hc, hf⟩ := bcell hb1))
    go_ret
    exact ⟨ret_bool (by simp only [bndB, Hs.out, Hk.out]; rfl), hb1⟩
set_option maxHeartbeats 400000 in
/-- elsewhere -/
theorem qBound_no (A B : Option Addr) (n c m d : Nat) (r x : Int) (w : World) (hn : n ≤ 100000) (hp : x < 0 ∨ (n : Int) ≤ x) :
    Calls Try.prog 48 #[.agg #[.slice A n c, .slice B m d, .int .i64 r], .int .i64 x] w (RetV w (.bool false)) := by
  have hf : (decide (0 ≤ x) && decide (x < (n : Int))) = false := by simp; omega
  have his := fun w => qIs_any A B n c m d r x w hn
  rw [hf] at his
  have His := Lib.hid his
  clear his hp hf
  have hb0 : Below w.heap.size w (w.alloc (.cells #[.slice A n c, .slice B m d, .int .i64 r] 25)) := (Below.refl _ _).alloc (Nat.le_refl _) _
  go_enter Try.func48, Try.ntmps48
  go_wp2_with (first | (go_at_call 32; go_must (refine (His.out _).mono ?_); rintro e w1 ⟨rfl, hb1⟩; replace hb1 := hb0.trans (hb1.mono hb0.size)))
  go_ret
  exact ⟨rfl, hb1⟩

set_option maxHeartbeats 1000000 in
theorem qFollow_any (A B : Option Addr) (n c m d : Nat) (r : Int) (l : List C) (p : Nat) (w : World) (h : IsC w A n c l) (hg : Good l) (hn : n ≤ 100000) (hp : p < n) :
    Calls Try.prog 63 #[.agg #[.slice A n c, .slice B m d, .int .i64 r], .int .i64 p] w (RetV w (.int .i64 (fol l p : Nat))) := by
  have hl := h.len
  have Hl := Lib.hid hl
  clear hl
  have hrk := hg.ac.bounded
  obtain ⟨rk, hr1, hr2⟩ := hrk
  have Hr2 := Lib.hid hr2
  have Hg := Lib.hid hg
  have hb0 : Below w.heap.size w (w.alloc (.cells #[.slice A n c, .slice B m d, .int .i64 r] 25)) := (Below.refl _ _).alloc (Nat.le_refl _) _
  have hx0 : (w.alloc (.cells #[.slice A n c, .slice B m d, .int .i64 r] 25)).heap[w.heap.size]? = some (.cells #[.slice A n c, .slice B m d, .int .i64 r] 25 (0, 0)) := alloc_at rfl
  have Hx0 := Lib.hid hx0
  clear hr1 hr2 hg hx0
  go_enter Try.func63, Try.ntmps63
  go_wp2
  go_loopw [1] (fun i wr => ∃ q : Nat, q < n ∧ i = .int .i64 q ∧ Hid (fol l q = fol l p) ∧ Below w.heap.size w wr ∧ wr.heap[w.heap.size]? = some (.cells #[.slice A n c, .slice B m d, .int .i64 r] 25 (0, 0))) (fun i _ => rk (intOf i).toNat)
  case atStart => exact ⟨p, hp, rfl, rfl, hb0, Hx0.out⟩
  case round =>
    obtain ⟨q, hq, rfl, hres, hb, x0⟩ := hrel
    have hbo := fun w2 (hb2 : Below w.heap.size w w2) => qBound_yes A B n c m d r l q w2 (h.below hb2) hn hq
    obtain ⟨x, hxc⟩ := h.get hq
    obtain ⟨b, off, rfl, hbb, hwf, h0, h1, h2⟩ := h.at_ hxc
    have hs := sAt_get hxc
    have Hs := Lib.hid hs
    clear hs hxc
    obtain ⟨y0, y1, y2, yl⟩ := open3 x0
    have Hx := Lib.hid x0
    clear x0
    cases ho : onB l q
    · have hb0 : bndB l q = false := by rw [on_bnd] at ho; simp at ho; exact ho.1
      have hk : (x.kind == 3) = false := by have := Hs.out; rw [on_bnd] at ho; simp at ho; rw [this] at ho; simpa using ho.2
      rw [hb0] at hbo
      have Hb := Lib.hid hbo
      have Ho := Lib.hid ho
      clear hb0 ho hbo
      go_wp2_with (first | (go_at_call 48; go_must (refine (Hb.out _ hb).mono ?_); rintro e w1 ⟨rfl, hb1⟩; have x1 := (hb1.block w.heap.size yl).trans Hx.out; obtain ⟨z0, z1, z2, zl⟩ := open3 x1; replace hb1 := hb.trans (hb1.mono hb.size); obtain ⟨hc, hf⟩ := bcell hb1))
      go_ret
      exact ⟨ret_int (by rw [← hres.out, fol_here Ho.out]), hb1⟩
    · have hnx := nx_lt Hg.out.shp ho
      have hlt := Hr2.out q _ hnx (by rw [leads_on ho]; simp)
      have hst := Hg.out.fol_step ho
      have hnn : 0 ≤ x.n := by
        have h1 := shp_at Hg.out.shp (on_lt ho)
        have := Hs.out
        rcases on_kind ho with ⟨k, _⟩ | k
        · have h2 := ok_ref h1 k; rw [this] at h2; omega
        · have h2 := ok_ptr h1 k; rw [this] at h2; omega
      have hnx2 : nx l q = x.n.toNat := by unfold nx; rw [Hs.out]
      obtain ⟨j, hj⟩ : ∃ j : Nat, x.n = j := ⟨x.n.toNat, by omega⟩
      rw [hj] at h2 hnx2
      simp at hnx2
      rw [hnx2] at hnx hlt hst
      have hmn : j < n := by have := Hl.out; omega
      have Hst := Lib.hid hst
      cases hb0 : bndB l q
      · have hk : (x.kind == 3) = true := by have := Hs.out; rw [on_bnd, hb0] at ho; simp at ho; rw [this] at ho; simpa using ho
        rw [hb0] at hbo
        have Hb := Lib.hid hbo
        clear hb0 ho hbo hj hnx2 hst hnx
        go_wp2_with (first | (go_at_call 48; go_must (refine (Hb.out _ hb).mono ?_); rintro e w1 ⟨rfl, hb1⟩; have x1 := (hb1.block w.heap.size yl).trans Hx.out; obtain ⟨z0, z1, z2, zl⟩ := open3 x1; replace hb1 := hb.trans (hb1.mono hb.size); obtain ⟨hc, hf⟩ := bcell hb1))
        go_roundw
        case rel => exact ⟨j, hmn, rfl, by rw [← Hst.out]; exact hres.out, hb1, x1⟩
        case measure => simp [intOf]; omega
      · rw [hb0] at hbo
        have Hb := Lib.hid hbo
        clear hb0 ho hbo hj hnx2 hst hnx
        go_wp2_with (first | (go_at_call 48; go_must (refine (Hb.out _ hb).mono ?_); rintro e w1 ⟨rfl, hb1⟩; have x1 := (hb1.block w.heap.size yl).trans Hx.out; obtain ⟨z0, z1, z2, zl⟩ := open3 x1; replace hb1 := hb.trans (hb1.mono hb.size); obtain ⟨hc, hf⟩ := bcell hb1))
        go_roundw
        case rel => exact ⟨j, hmn, rfl, by rw [← Hst.out]; exact hres.out, hb1, x1⟩
        case measure => simp [intOf]; omega
end Go.Proofs.Ytlndjooddkjnoaa
