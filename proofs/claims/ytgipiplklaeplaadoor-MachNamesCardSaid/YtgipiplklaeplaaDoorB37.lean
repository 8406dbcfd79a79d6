/- Texts of this proof that belong together: words of memory, plain laws, walks. -/
import Derived.Test.YtgipiplklaeplaaDoorB13
import Derived.Test.YtgipiplklaeplaaDoorB36
set_option linter.unusedVariables false
set_option linter.unusedSimpArgs false
namespace Go.Proofs.YtgipiplklaeplaaDoor
open Go.RowKit
def RetCO (w : World) (cs : List C) (e : Ending) (w' : World) : Prop := ∃ A n cap, e = .returned (.slice A n cap) ∧ IsC w' A n cap cs ∧ (∀ a, A = some a → w.heap.size ≤ a.block) ∧ Below w.heap.size w w'
set_option maxHeartbeats 800000 in
theorem rShiftO_any (A : Option Addr) (n cap : Nat) (t : List C) (v : Int) (w : World) (h : IsC w A n cap t) (hn : n ≤ 100000) :
  Calls Tryd.prog 33 #[.slice A n cap, .int .i64 v] w (RetCO w (shiftF t v)) := by
 have hl := h.len
 have Hl := Lib.hid hl
 clear hl
 go_enter Tryd.func33, Tryd.ntmps33
 go_wp2_with (first
  | (at_builtin; go_must (refine wpList_append_sl rfl (.tmp 7) (.tmp 8) 22 rfl w.heap.size 66 Tryd.underlying22 infoC rfl (by omega) rfl (World.ownsRow_lit _ #[] 0 (Nat.le_refl _) (by simp [maxLen]) rfl) rfl (h.sl.below (by repeat (first | assumption | exact Below.refl _ _ | refine Below.drew ?_ | refine below_drewN ?_ _ | refine Below.alloc ?_ ?_ _ | refine Below.setCell ?_ ?_ _ | (apply Below.size; assumption) | (simp; done) | (simp; omega) | (have hz := hb.size; simp; omega) | (have hz := hb.size; omega) | omega))) (oneC t) (by omega) (by omega) (by repeat (first | assumption | exact Below.refl _ _ | refine Below.drew ?_ | refine below_drewN ?_ _ | refine Below.alloc ?_ ?_ _ | refine Below.setCell ?_ ?_ _ | (apply Below.size; assumption) | (simp; done) | (simp; omega) | (have hz := hb.size; simp; omega) | (have hz := hb.size; omega) | omega)) ?_); intro A0 cap0 w0 hown0 hb0 _ _; replace hown0 : w0.ownsRow w.heap.size 66 3 (.slice A0 n cap0) n (flatC t) := by simpa using hown0))
 have hb0' : Below w.heap.size w w0 := Below.trans (by repeat (first | assumption | exact Below.refl _ _ | refine Below.drew ?_ | refine below_drewN ?_ _ | refine Below.alloc ?_ ?_ _ | refine Below.setCell ?_ ?_ _ | (apply Below.size; assumption) | (simp; done) | (simp; omega) | (have hz := hb.size; simp; omega) | (have hz := hb.size; omega) | omega)) hb0
 go_loopw [6] (fun i wr => ∃ (k : Nat), k ≤ n ∧ i = .int .i64 k ∧ wr.ownsRow w.heap.size 66 3 (.slice A0 n cap0) n (flatC (turnF (fun n : Int => wrap64 (n + v)) (t.take k) ++ t.drop k)) ∧ Below w.heap.size w wr) (fun i _ => n - (intOf i).toNat)
 case atStart => exact ⟨0, Nat.zero_le _, rfl, by simpa [turnF] using hown0, hb0'⟩
 case round =>
  obtain ⟨k, hk, rfl, hown, hb⟩ := hrel
  by_cases hlt : k < n
  ·obtain ⟨x, hxk⟩ := h.get hlt
   have hwf := h.wf x (List.mem_of_getElem? hxk)
   obtain ⟨gg, rfl⟩ : ∃ gg, A0 = some ⟨gg, 0, none⟩ := by
    obtain ⟨g, cap', hv, _⟩ := hown.form (by omega)
    injection hv with hv
    exact ⟨g, hv⟩
   have hxk' : (turnF (fun n : Int => wrap64 (n + v)) (t.take k) ++ t.drop k)[k]? = some x := by
    rw [List.getElem?_append_right (by simp [turnF]; omega)]
    have := Hl.out
    simp [turnF, hxk, show min k t.length = k by omega]
   obtain ⟨f0, f1, f2⟩ := flatC_get _ _ _ hxk'
   have hkl : k * 3 + 2 < n * 3 := by omega
   have h0 := (hown.cellAt (k * 3) (by omega)).trans f0
   have h1 := (hown.cellAt (k * 3 + 1) (by omega)).trans f1
   have h2 := (hown.cellAt (k * 3 + 2) (by omega)).trans f2
   have hz0 := hown.frozenAt (k * 3 + 2)
   have hgl := (hown.lt gg rfl)
   obtain ⟨hg1, hg2⟩ := hgl
   have hset : x.kind = 1 → (flatC (turnF (fun n : Int => wrap64 (n + v)) (t.take k) ++ t.drop k)).set (k * 3 + 2) (.int .i64 ((fun n : Int => wrap64 (n + v)) x.n)) = flatC (turnF (fun n : Int => wrap64 (n + v)) (t.take (k + 1)) ++ t.drop (k + 1)) := fun hk1 => turn_step (fun n : Int => wrap64 (n + v)) hxk hk1
   have hkeep : x.kind ≠ 1 → turnF (fun n : Int => wrap64 (n + v)) (t.take k) ++ t.drop k = turnF (fun n : Int => wrap64 (n + v)) (t.take (k + 1)) ++ t.drop (k + 1) := fun hk1 => turn_keep (fun n : Int => wrap64 (n + v)) hxk hk1
   have Hset := Lib.hid hset
   have Hkeep := Lib.hid hkeep
   clear hset hkeep hxk hxk' f0 f1 f2
   obtain ⟨hc, hf⟩ := bcell hb
   by_cases hk1 : x.kind = 1
   ·have hbk : (x.kind == 1) = true := by simp [hk1]
    have Hk1 := Lib.hid hk1
    clear hk1
    go_wp2
    go_roundw
    case rel =>
     refine ⟨k + 1, by omega, by go_num, ?_, ?_⟩
     ·rw [← Hset.out Hk1.out]
      exact (hown.stored (k * 3 + 2) _).1
     ·exact Below.setCell (p := ⟨gg, k * 3 + 2, none⟩) hb hg1 _
    case measure => simp [intOf]; omega
   ·have hbk : (x.kind == 1) = false := by simp [hk1]
    have Hk1 := Lib.hid hk1
    clear hk1
    go_wp2
    go_roundw
    case rel => exact ⟨k + 1, by omega, by go_num, by rw [← Hkeep.out Hk1.out]; exact hown, hb⟩
    case measure => simp [intOf]; omega
  ·have hkn : k = n := by omega
   subst hkn
   have hfin : turnF (fun n : Int => wrap64 (n + v)) (t.take k) ++ t.drop k = turnF (fun n : Int => wrap64 (n + v)) t := by rw [drop_end Hl.out (by omega), List.take_of_length_le (by rw [Hl.out]; exact Nat.le_refl _)]; simp
   rw [hfin] at hown
   have hfr : ∀ a, A0 = some a → w.heap.size ≤ a.block := fun a ha => (Own0.lt hown a ha).1
   have hres : IsC wr A0 k cap0 (turnF (fun n : Int => wrap64 (n + v)) t) := ⟨Sl.own hown (by omega), turn_wf (fun n => wrap64_i64 _) h.wf⟩
   clear hfin
   cases hr : rightB (turnF (fun n : Int => wrap64 (n + v)) t)
   all_goals
    have Hr := Lib.hid hr
    clear hr
    go_wp2_with (first
     | (go_at_call 75; go_must (refine (rRight_any A0 k cap0 _ _ hres hn).mono ?_); rw [Hr.out]; rintro e w2 ⟨rfl, hb2⟩; replace hb := hb.trans (hb2.mono hb.size)))
    go_ret
   ·rw [shiftF_no Hr.out]
    exact ⟨_, _, _, rfl, IsC.nil0 _, (fun a ha => by cases ha), hb⟩
   ·rw [shiftF_yes Hr.out]
    exact ⟨_, _, _, rfl, hres.below hb2, hfr, hb⟩
def movedR (r : Raw) (v : Int) : Raw := (shiftF r.1 v, r.2.map fun p => (p.1, shiftF p.2 v))
set_option maxRecDepth 100000 in
set_option maxHeartbeats 8000000 in
theorem rMoved_any (A : Option Addr) (n c : Nat) (t : List C) (B : Option Addr) (m d : Nat) (b : List (Bool × List C)) (v : Int) (w : World) (h : IsC w A n c t) (hB : IsLs w B m d b)
  (hn : n ≤ 100000) (hm : m ≤ 100000) (hs : ∀ x ∈ b, x.2.length ≤ 100000) :
  Calls Tryd.prog 26 #[.agg #[.slice A n c, .slice B m d], .int .i64 v] w (RetCl w (movedR (t, b) v)) := by
 have hal : Below w.heap.size w ((w.alloc (.cells #[.slice A n c, .slice B m d] 25)).alloc (.cells #[.slice none 0 0, .slice none 0 0] 25)) := ((Below.refl _ _).alloc (Nat.le_refl _) _).alloc (by simp) _
 have hml := hB.len
 have Hml := Lib.hid hml
 have hcap := hB.cap_le
 clear hml
 go_enter Tryd.func26, Tryd.ntmps26
 go_upto_region 1 with fail
 refine wp_world' (Φ := fun X => Below w.heap.size w X ∧ X.heap[w.heap.size]? = some (.cells #[.slice A n c, .slice B m d] 25 (0, 0)) ∧ X.heap[w.heap.size + 1]? = some (.cells #[.slice none 0 0, .slice none 0 0] 25 (0, 0))) ⟨hal, (alloc_past (by simp)).trans (alloc_at rfl), alloc_at (by simp)⟩ ?_
 rintro w7 ⟨hbX, x0r, x1r⟩
 obtain ⟨g, hg⟩ : ∃ g, g = w.heap.size := ⟨_, rfl⟩
 rw [← hg] at x0r x1r ⊢
 have hgw : w.heap.size ≤ g := by omega
 have hHr := h.below hbX
 have hBr : IsLs w7 B m d b := IsG.below keepsLit hB hbX
 have hbwX := hbX
 have hX7 := Lib.hid (fun w' (hb' : Below w7.heap.size w7 w') => rShiftO_any A n c t v w' (hHr.below hb') hn)
 obtain ⟨y0, y1, yl⟩ := open2 x0r
 clear hg hal h hB hbX
 go_wp2_with (first
  | (go_at_call 33; go_must (refine (hX7.out _ (Below.refl _ _)).mono ?_); rintro e w6 ⟨A6, n6, c6, rfl, hR6, hn6, hb6⟩))
 have x06 := (hb6.block g (block_lt x0r)).trans x0r
 have x16 := (hb6.block (g + 1) (block_lt x1r)).trans x1r
 refine wp_world' (Φ := fun V => Below w6.heap.size w6 V ∧ V.heap[w6.heap.size]? = some (.cells #[.slice A6 n6 c6, .slice none 0 0] 25 (0, 0))) ⟨(Below.refl _ _).alloc (Nat.le_refl _) _, alloc_at rfl⟩ ?_
 rintro V ⟨hbV, v7⟩
 obtain ⟨g7, hg7⟩ : ∃ g7, g7 = w6.heap.size := ⟨_, rfl⟩
 rw [← hg7] at v7 ⊢
 have h67 : w6.heap.size ≤ g7 := by omega
 have hg17 : g + 1 < g7 := by have := block_lt x16; omega
 obtain ⟨base2, hbase2⟩ : ∃ base2, base2 = V.heap.size := ⟨_, rfl⟩
 have hVl := block_lt v7
 have hbwV : Below w7.heap.size w7 V := hb6.trans (hbV.mono hb6.size)
 have hR6V : IsC V A6 n6 c6 (shiftF t v) := hR6.below hbV
 have hg1L := block_lt x1r
 obtain ⟨L7, hL7⟩ : ∃ L7, L7 = w7.heap.size := ⟨_, rfl⟩
 have hn6' : ∀ a, A6 = some a → L7 ≤ a.block := fun a ha => by rw [hL7]; exact hn6 a ha
 rw [← hL7] at hg1L
 have hOff6 : Off A6 n6 g7 := by
  intro hn a ha
  obtain ⟨q, off, hq, hlt, _⟩ := hR6.sl.cells hn
  rw [hq] at ha; cases ha
  simp only; omega
 have hlw : w7.heap.size ≤ g7 := by have := hb6.size; omega
 have v0 := (hbV.block g (block_lt x06)).trans x06
 have v1 := (hbV.block (g + 1) (block_lt x16)).trans x16
 clear x0r x1r x06 x16 hR6 hbV hb6 hg7 h67 hHr hX7 y0 y1 yl
 go_wp2
 go_loopw [6] (fun iv wr => ∃ (k : Nat) (B9 : Option Addr) (d9 : Nat), k ≤ m ∧ iv = .int .i64 k ∧ wr.heap[g7]? = some (.cells #[.slice A6 n6 c6, .slice B9 k d9] 25 (0, 0)) ∧ wr.heap[g]? = some (.cells #[.slice A n c, .slice B m d] 25 (0, 0)) ∧ wr.heap[g + 1]? = some (.cells #[.slice none 0 0, .slice none 0 0] 25 (0, 0)) ∧
   IsC wr A6 n6 c6 (shiftF t v) ∧ Far B9 A6 n6 ∧ TailG (RLN g7 L7 B9) 2 wr base2 36 B9 k d9 ((b.take k).map fun p => (p.1, shiftF p.2 v)) ∧ (∀ a, B9 = some a → base2 ≤ a.block ∧ a.block < wr.heap.size) ∧ Below w7.heap.size w7 wr ∧ base2 ≤ wr.heap.size) (fun iv _ => m - (intOf iv).toNat)
 case atStart => exact ⟨0, none, 0, Nat.zero_le _, rfl, v7, v0, v1, hR6V, (fun a ha => by cases ha), TailG.nil _ _ _ _, (fun a ha => by cases ha), hbwV, by omega⟩
 case round =>
  clear v7 v0 v1 hR6V hbwV
  obtain ⟨k, B9, d9, hk, rfl, q7, q0, q1, hI6, hf6, hT9, hB9, hbq, hlq⟩ := hrel
  obtain ⟨z0, z1, zl⟩ := open2 q0
  obtain ⟨o0, o1, ol⟩ := open2 q7
  have fr1 := frozen_of q7 1
  have hBq : IsLs wr B m d b := IsG.below keepsLit hBr hbq
  by_cases hlt : k < m
  ·obtain ⟨p, hpk⟩ := hBq.get hlt
   obtain ⟨b1, o1', A1, n1, c1, rfl, hb1, i1, u0, u1⟩ := lits_at hBq hpk
   have hp1 : n1 ≤ 100000 := by rw [← i1.len]; exact hs p (List.mem_of_getElem? hpk)
   have htk : (b.take (k + 1)).map (fun p => (p.1, shiftF p.2 v)) = (b.take k).map (fun p => (p.1, shiftF p.2 v)) ++ [(p.1, shiftF p.2 v)] := by
    obtain ⟨hl, he⟩ := List.getElem?_eq_some_iff.1 hpk
    rw [List.take_succ_eq_append_getElem hl, he, List.map_append]; rfl
   have Htk := Lib.hid htk
   have hcapm := hcap.1
   have hp : (k : Int) < (m : Int) := by omega
   have htu := fun w' (hb' : Below wr.heap.size wr w') => rShiftO_any A1 n1 c1 p.2 v w' (i1.below hb') hp1
   have Htu := Lib.hid htu
   obtain ⟨us, s1, s2, s3, s4⟩ := hT9.rows
   have hgq : g < wr.heap.size := zl
   have hne7 : ∀ a, B9 = some a → a.block ≠ g7 := fun a ha => by have := (hB9 a ha).1; omega
   have Hs := Lib.hid hs
   have hk12 : k + 1 ≤ 1000000000000 := by omega
   have Hk12 := Lib.hid hk12
   clear hpk htk htu hs hBr hBq hn hm hk12
   go_upto_region 5 with fail
   go_region_law
    (first
     | (refine step_append_any (xs := us.flatten) (by rfl) (.tmp 20) (.tmp 36) 23 (by rfl) base2 36 Tryd.underlying23 infoLitN (by rfl) (by omega) (by rfl) ?_ ?_ (by rfl) ?_ (one_litN p.1 A8 n8 c8) (Hk12.out) (by omega) ?_ ?_ ?_; (focus (exact (s3.below hb8').below ((Below.refl _ _).alloc (Nat.le_refl _) _))); (focus (exact fun b hb => Nat.lt_of_lt_of_le (hB9 b hb).2 (Nat.le_trans hs8 (alloc_le _ _)))); (focus (exact Sl.blk (cs := #[.bool p.1, .slice A8 n8 c8]) (t := 36) (alloc_at rfl) rfl (by simp [maxLen]))); (focus (exact Nat.le_trans hlq (Nat.le_trans hs8 (alloc_le _ _)))); (focus (exact s3.none_cap)); intro B1 d1 w9 ht9 hbn9 hap9; have x79 := (hap9.old g7 (Nat.lt_of_lt_of_le (block_lt x78) (alloc_le _ _)) hne7).trans ((alloc_past (block_lt x78)).trans x78); have k2 := cells_of x79 1; have kf2 := frozen_of x79 1; have kl2 := block_lt x79; simp at k2)
     | (go_simp; go_at_call 33; refine (Htu.out _ (Below.refl _ _).drew).mono ?_; rintro e8 w8 ⟨A8, n8, c8, rfl, hI8, hn8, hb8⟩; have hb8' : Below wr.heap.size wr w8 := ((Below.refl _ _).drew).trans hb8; have hs8 := hb8'.size; have x78 := (hb8'.block g7 ol).trans q7; have x08 := (hb8'.block g zl).trans q0; have k1 := cells_of x78 1; have kf := frozen_of x78 1; have kl := block_lt x78; obtain ⟨k0a, k0b, k0l⟩ := open2 x08; have uu0 := (hb8'.cell (p := ⟨b1, o1' + k * 2, none⟩) hb1).trans u0; have uu1 := (hb8'.cell (p := ⟨b1, o1' + k * 2 + 1, none⟩) hb1).trans u1; have hb18 := Nat.lt_of_lt_of_le hb1 hs8; simp at k1)
     | fail)
   all_goals
    have hu : RLN g7 L7 B1 (w9.setCell ⟨g7, 1, none⟩ (.slice B1 (k + 1) d1)) (true, shiftF t v) [.bool true, .slice A6 n6 c6] := lit_stepN ⟨A6, n6, c6, rfl, hI6, hOff6, hf6, hn6'⟩ hb8' hap9
    obtain ⟨A6', n6', c6', hHe, hH1, _, hH3, _⟩ := hu
    simp only [List.cons.injEq, Value.slice.injEq, Value.bool.injEq, true_and, and_true] at hHe
    obtain ⟨rfl, rfl, rfl⟩ := hHe
    have h8lt : ∀ a, A8 = some a → wr.heap.size ≤ a.block := fun a ha => hn8 a ha
    have hB1 : ∀ a, B1 = some a → base2 ≤ a.block ∧ a.block < w9.heap.size := fun a ha => by
     obtain ⟨p1, p2⟩ := hap9.blk a ha
     rcases p2 with ⟨a0, p3, p4⟩ | p2
     ·rw [p4]; exact ⟨(hB9 a0 p3).1, by rw [← p4]; exact p1⟩
     ·simp at p2; exact ⟨by omega, p1⟩
    have h8a := hI8.below ((Below.refl _ _).alloc (Nat.le_refl _) (.cells #[.bool p.1, .slice A8 n8 c8] 36))
    have h8f : Far B9 A8 n8 := fun a ha hn a' ha' he => by have := (hB9 a ha).2; have := h8lt a' ha'; omega
    have hnewL : RLN g7 L7 B1 (w9.setCell ⟨g7, 1, none⟩ (.slice B1 (k + 1) d1)) (p.1, shiftF p.2 v) [.bool p.1, .slice A8 n8 c8] := ⟨A8, n8, c8, rfl, ⟨(h8a.sl.far hap9 h8f).but' (But.set w9 g7 1 _) (fun _ a ha => by have := h8lt a ha; omega), h8a.wf⟩, fun _ a ha => by have := h8lt a ha; omega, h8f.app hap9 h8a.sl, fun a ha => by have := h8lt a ha; have := hbq.size; omega⟩
    have hTl : TailG (RLN g7 L7 B1) 2 (w9.setCell ⟨g7, 1, none⟩ (.slice B1 (k + 1) d1)) base2 36 B1 (k + 1) d1 (((b.take k).map fun p => (p.1, shiftF p.2 v)) ++ [(p.1, shiftF p.2 v)]) := TailG.snoc (ht9.at_ fun a ha => set_other (by have := (hB1 a ha).1; omega) _) hT9.len s1 s2 rfl (fun q x v hx hv => lit_stepN (s4 q x v hx hv) hb8' hap9) hnewL
    have hz7 := set_block (k := 1) x79 (.slice B1 (k + 1) d1)
    simp at hz7
    have hz0 : (w9.setCell ⟨g7, 1, none⟩ (.slice B1 (k + 1) d1)).heap[g]? = _ := (set_other (by omega) _).trans ((hap9.old g (by simp; omega) (fun a ha => by have := (hB9 a ha).1; omega)).trans ((alloc_past (by omega)).trans x08))
    have hz1 : (w9.setCell ⟨g7, 1, none⟩ (.slice B1 (k + 1) d1)).heap[g + 1]? = _ := (set_other (by omega) _).trans ((hap9.old (g + 1) (by simp; omega) (fun a ha => by have := (hB9 a ha).1; omega)).trans ((alloc_past (by omega)).trans ((hb8'.block (g + 1) (by omega)).trans q1)))
    have hbl : Below w7.heap.size w7 w9 := ((hbq.trans (hb8'.mono hbq.size)).alloc (by have := hbq.size; omega) _).trans (hbn9.mono (by have := hbq.size; omega))
    have hk12 := Hk12.out
    go_wp2_with fail
    go_roundw
    case rel => exact ⟨k + 1, B1, d1, by omega, by go_num, hz7, hz0, hz1, hH1, hH3, by rw [Htk.out]; exact hTl, fun a ha => ⟨(hB1 a ha).1, by simpa using (hB1 a ha).2⟩, Below.setCell hbl hlw _, Nat.le_trans (Nat.le_trans hlq (Nat.le_trans hs8 (alloc_le _ _))) (Nat.le_trans hap9.size (by simp))⟩
    case measure => simp [intOf]; omega
  ·have hkm : k = m := by omega
   subst hkm
   obtain ⟨rr0, rr1, rrl⟩ := open2 q1
   have re0 := frozen_of q1 0
   have re1 := frozen_of q1 1
   go_wp2
   refine bodyPost_ret (v := .agg #[.slice A6 n6 c6, .slice B9 k d9]) (by simp [results, Tryd.results26, go_sem, *]) rfl ?_
   have hbut : But wr ((wr.setCell ⟨g + 1, 0, none⟩ (.slice A6 n6 c6)).setCell ⟨g + 1, 1, none⟩ (.slice B9 k d9)) (g + 1) := (But.set wr (g + 1) 0 _).setB _
   refine ⟨A6, n6, c6, B9, k, d9, rfl, ?_, ?_, Below.setCell (Below.setCell (hbwX.trans (hbq.mono hbwX.size)) (by simp only; omega) _) (by simp only; omega) _⟩
   ·have hh : IsC wr A6 n6 c6 (movedR (t, b) v).1 := by exact hI6
    exact ⟨hh.sl.but' hbut (fun _ a ha => by have := hn6' a ha; omega), hh.wf⟩
   ·have hfull : (movedR (t, b) v).2 = (b.take k).map fun p => (p.1, shiftF p.2 v) := by
     unfold movedR; simp only
     rw [List.take_of_length_le (by have := Hml.out; omega)]
    rw [hfull]
    obtain ⟨us, s1, s2, s3, s4⟩ := hT9.rows
    exact ⟨hT9.len, us, s1, s2, (s3.sl (by omega)).but' hbut (fun _ a ha => by have := (hB9 a ha).1; omega), fun q x v hx hv => by
     obtain ⟨A, n, c, h1, h2, h3, h4, h5⟩ := s4 q x v hx hv
     exact ⟨A, n, c, h1, h2.sl.but' hbut (fun _ a ha => by have := h5 a ha; omega), h2.wf⟩⟩
end Go.Proofs.YtgipiplklaeplaaDoor
