/- Unifying, and putting, with any numbers and terms. -/
import Derived.WalkMore
import Derived.Test.YtlndjooddkjnoaaHV2
import Derived.Test.YtlndjooddkjnoaaB6
set_option linter.unusedVariables false
set_option linter.unusedSimpArgs false
namespace Go.Proofs.Ytlndjooddkjnoaa
open Go.RowKit

/-- unifying at numbers -/
def uniZ (l : List C) (tr : List Int) (x y : Int) : Option (List C × List Int) := if (0 ≤ x ∧ x < (l.length : Int)) ∧ (0 ≤ y ∧ y < (l.length : Int)) then uniF l tr x.toNat y.toNat else none
set_option maxRecDepth 100000 in
set_option maxHeartbeats 2000000 in
theorem hUnify_out (A B : Option Addr) (n c m d : Nat) (r x y : Int) (w : World) (hn : n ≤ 5000) (hxy : ¬ ((0 ≤ x ∧ x < (n : Int)) ∧ (0 ≤ y ∧ y < (n : Int)))) :
    Calls Try.prog 23 #[.agg #[.slice A n c, .slice B m d, .int .i64 r], .int .i64 x, .int .i64 y] w (RetUni w A B n c m d r none) := by
  have hwa := fun wz => hwithin_any A B n c m d r x wz (by omega)
  have hwb := fun wz => hwithin_any A B n c m d r y wz (by omega)
  have Hwa := Lib.hid hwa
  have Hwb := Lib.hid hwb
  clear hwa hwb
  go_enter Try.func23, Try.ntmps23
  have hal : Below w.heap.size w ((w.alloc (.cells #[.slice A n c, .slice B m d, .int .i64 r] 25)).alloc (.cells #[.slice none 0 0, .slice none 0 0, .int .i64 0] 25)) := ((Below.refl _ _).alloc (Nat.le_refl _) _).alloc (by first | omega | (simp; done) | (simp; omega)) _
  have hal2 : ((w.alloc (.cells #[.slice A n c, .slice B m d, .int .i64 r] 25)).alloc (.cells #[.slice none 0 0, .slice none 0 0, .int .i64 0] 25)).heap.size = w.heap.size + 2 := by simp
  have x00 : ((w.alloc (.cells #[.slice A n c, .slice B m d, .int .i64 r] 25)).alloc (.cells #[.slice none 0 0, .slice none 0 0, .int .i64 0] 25)).heap[w.heap.size]? = some (.cells #[.slice A n c, .slice B m d, .int .i64 r] 25 (0, 0)) := (alloc_past (by first | omega | (simp; done) | (simp; omega))).trans (alloc_at rfl)
  have x01 : ((w.alloc (.cells #[.slice A n c, .slice B m d, .int .i64 r] 25)).alloc (.cells #[.slice none 0 0, .slice none 0 0, .int .i64 0] 25)).heap[w.heap.size + 1]? = some (.cells #[.slice none 0 0, .slice none 0 0, .int .i64 0] 25 (0, 0)) := alloc_at (by first | omega | (simp; done) | (simp; omega))
  cases hbx : (decide (0 ≤ x) && decide (x < (n : Int)))
  · rw [hbx] at Hwa
    go_wp2
    go_step3
    go_upto_region 2 with (first
      | (go_at_call 42; have hfirst := x01; go_must (refine (Hwa.out _).mono ?_); rintro e w2 ⟨rfl, hb1⟩; have x20 := (hb1.block w.heap.size (by omega)).trans x00; have x21 := (hb1.block (w.heap.size + 1) (by omega)).trans x01; have hbw2 := hal.trans (hb1.mono hal.size); have hs1 := hb1.size; clear x01 hb1 hfirst))
    obtain ⟨s0, s1, s2, sl⟩ := open3 x20
    obtain ⟨t0, t1, t2, tl⟩ := open3 x21
    have tf0 := frozen_of x21 0
    have tf1 := frozen_of x21 1
    have tf2 := frozen_of x21 2
    have hkF : Kq (w.heap.size + 1) w2 (((w2.setCell ⟨w.heap.size + 1, 0, none⟩ (.slice A n c)).setCell ⟨w.heap.size + 1, 1, none⟩ (.slice B m d)).setCell ⟨w.heap.size + 1, 2, none⟩ (.int .i64 r)) := ((Kq.set w2 0 _).trans (Kq.set _ 1 _)).trans (Kq.set _ 2 _)
    have HbF := Lib.hid (hbw2.trans (hkF.bel.mono (by omega)))
    have u0 : (((w2.setCell ⟨w.heap.size + 1, 0, none⟩ (.slice A n c)).setCell ⟨w.heap.size + 1, 1, none⟩ (.slice B m d)).setCell ⟨w.heap.size + 1, 2, none⟩ (.int .i64 r)).cell? ⟨w.heap.size + 1, 0, none⟩ = some (.slice A n c) := (by first | (simp [*]; done) | (go_simp; done) | (go_simp; simp [*]; done))
    have u1 : (((w2.setCell ⟨w.heap.size + 1, 0, none⟩ (.slice A n c)).setCell ⟨w.heap.size + 1, 1, none⟩ (.slice B m d)).setCell ⟨w.heap.size + 1, 2, none⟩ (.int .i64 r)).cell? ⟨w.heap.size + 1, 1, none⟩ = some (.slice B m d) := (by first | (simp [*]; done) | (go_simp; done) | (go_simp; simp [*]; done))
    have u2 : (((w2.setCell ⟨w.heap.size + 1, 0, none⟩ (.slice A n c)).setCell ⟨w.heap.size + 1, 1, none⟩ (.slice B m d)).setCell ⟨w.heap.size + 1, 2, none⟩ (.int .i64 r)).cell? ⟨w.heap.size + 1, 2, none⟩ = some (.int .i64 r) := (by first | (simp [*]; done) | (go_simp; done) | (go_simp; simp [*]; done))
    clear hkF
    go_wp2
    generalize (((w2.setCell ⟨w.heap.size + 1, 0, none⟩ (.slice A n c)).setCell ⟨w.heap.size + 1, 1, none⟩ (.slice B m d)).setCell ⟨w.heap.size + 1, 2, none⟩ (.int .i64 r)) = F at *
    try rw [Exit.noGoto_ret]
    refine bodyPost_ret (v := .tuple #[.agg #[.slice A n c, .slice B m d, .int .i64 r], .bool false]) (by simp [results, Try.results23, go_sem, *]) rfl ?_
    exact ⟨HbF.out, rfl⟩
  · have hby : (decide (0 ≤ y) && decide (y < (n : Int))) = false := by
      simp at hbx ⊢
      omega
    rw [hbx] at Hwa
    rw [hby] at Hwb
    go_wp2
    go_step3
    go_upto_region 2 with (first
      | (go_at_call 42; have hfirst := x01; go_must (refine (Hwa.out _).mono ?_); rintro e w1 ⟨rfl, hb1⟩; have x10 := (hb1.block w.heap.size (by omega)).trans x00; have x11 := (hb1.block (w.heap.size + 1) (by omega)).trans x01; have hbw1 := hal.trans (hb1.mono hal.size); have hs1 := hb1.size; obtain ⟨u0, u1, u2, ul⟩ := open3 x10; clear x01 hb1 hfirst)
      | (go_at_call 42; go_must (refine (Hwb.out _).mono ?_); rintro e w2 ⟨rfl, hb2⟩; have x20 := (hb2.block w.heap.size ul).trans x10; have x21 := (hb2.block (w.heap.size + 1) (by omega)).trans x11; have hbw2 := hbw1.trans (hb2.mono hbw1.size)))
    clear u0 u1 u2 ul
    obtain ⟨s0, s1, s2, sl⟩ := open3 x20
    obtain ⟨t0, t1, t2, tl⟩ := open3 x21
    have tf0 := frozen_of x21 0
    have tf1 := frozen_of x21 1
    have tf2 := frozen_of x21 2
    have hkF : Kq (w.heap.size + 1) w2 (((w2.setCell ⟨w.heap.size + 1, 0, none⟩ (.slice A n c)).setCell ⟨w.heap.size + 1, 1, none⟩ (.slice B m d)).setCell ⟨w.heap.size + 1, 2, none⟩ (.int .i64 r)) := ((Kq.set w2 0 _).trans (Kq.set _ 1 _)).trans (Kq.set _ 2 _)
    have HbF := Lib.hid (hbw2.trans (hkF.bel.mono (by omega)))
    have u0 : (((w2.setCell ⟨w.heap.size + 1, 0, none⟩ (.slice A n c)).setCell ⟨w.heap.size + 1, 1, none⟩ (.slice B m d)).setCell ⟨w.heap.size + 1, 2, none⟩ (.int .i64 r)).cell? ⟨w.heap.size + 1, 0, none⟩ = some (.slice A n c) := (by first | (simp [*]; done) | (go_simp; done) | (go_simp; simp [*]; done))
    have u1 : (((w2.setCell ⟨w.heap.size + 1, 0, none⟩ (.slice A n c)).setCell ⟨w.heap.size + 1, 1, none⟩ (.slice B m d)).setCell ⟨w.heap.size + 1, 2, none⟩ (.int .i64 r)).cell? ⟨w.heap.size + 1, 1, none⟩ = some (.slice B m d) := (by first | (simp [*]; done) | (go_simp; done) | (go_simp; simp [*]; done))
    have u2 : (((w2.setCell ⟨w.heap.size + 1, 0, none⟩ (.slice A n c)).setCell ⟨w.heap.size + 1, 1, none⟩ (.slice B m d)).setCell ⟨w.heap.size + 1, 2, none⟩ (.int .i64 r)).cell? ⟨w.heap.size + 1, 2, none⟩ = some (.int .i64 r) := (by first | (simp [*]; done) | (go_simp; done) | (go_simp; simp [*]; done))
    clear hkF
    go_wp2
    generalize (((w2.setCell ⟨w.heap.size + 1, 0, none⟩ (.slice A n c)).setCell ⟨w.heap.size + 1, 1, none⟩ (.slice B m d)).setCell ⟨w.heap.size + 1, 2, none⟩ (.int .i64 r)) = F at *
    try rw [Exit.noGoto_ret]
    refine bodyPost_ret (v := .tuple #[.agg #[.slice A n c, .slice B m d, .int .i64 r], .bool false]) (by simp [results, Try.results23, go_sem, *]) rfl ?_
    exact ⟨HbF.out, rfl⟩
theorem hUnify_any (A B : Option Addr) (n c m d : Nat) (r : Int) (l : List C) (tr : List Int) (x y : Int) (w : World) (h : IsC w A n c l) (hT : IsI w B m d tr) (hg : Good l) (ht : TrOk l tr) (hn : n ≤ 5000) (hm : m ≤ 100000) :
    Calls Try.prog 23 #[.agg #[.slice A n c, .slice B m d, .int .i64 r], .int .i64 x, .int .i64 y] w (RetUni w A B n c m d r (uniZ l tr x y)) := by
  have hl := h.len
  unfold uniZ
  by_cases hxy : (0 ≤ x ∧ x < (l.length : Int)) ∧ (0 ≤ y ∧ y < (l.length : Int))
  · rw [if_pos hxy]
    obtain ⟨a, rfl⟩ : ∃ a : Nat, x = a := ⟨x.toNat, by omega⟩
    obtain ⟨b, rfl⟩ : ∃ b : Nat, y = b := ⟨y.toNat, by omega⟩
    exact hUnify_in A B n c m d r l tr a b w h hT hg ht hn hm (by omega) (by omega)
  · rw [if_neg hxy]
    exact hUnify_out A B n c m d r x y w hn (by rw [← hl]; exact hxy)
theorem hPut_any (T : Tm) (A B D At : Option Addr) (n c m d p e k kc : Nat) (r : Int) (l : List C) (a : List Int) (w : World) (h : IsC w A n c l) (ht : IsC w At k kc T.flat) (hD : IsI w D p e a)
    (hT : T.ok = true) (hTs : T.size ≤ 200) (hn : n ≤ 50000) (hp : p ≤ 50000) :
    Calls Try.prog 19 #[.agg #[.slice A n c, .slice B m d, .int .i64 r], .slice At k kc, .slice D p e] w (RetPut w A B n c m d r (putA l T a)) := by
  cases T with
  | f s us => exact hPut_f s us A B D At n c m d p e k kc r l a w h ht hD hT hTs hn hp
  | i x => exact hPut_i x A B D At n c m d p e k kc r l a w h ht hD hT hn hp
  | v x =>
    have hx : 0 ≤ x := by
      simp [Tm.ok] at hT
      omega
    obtain ⟨v, rfl⟩ : ∃ v : Nat, x = v := ⟨x.toNat, by omega⟩
    by_cases hneg : atA a v < 0
    · exact hPut_v v A B D At n c m d p e k kc r l a w h ht hD hT hn hp hneg
    · exact hPut_b v A B D At n c m d p e k kc r l a w h ht hD hT hn hp (by omega)
end Go.Proofs.Ytlndjooddkjnoaa
