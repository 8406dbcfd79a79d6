/- Texts of this proof that belong together: words of memory, plain laws, walks. -/
import Derived.Test.YtgipiplklaeplaaDoorB35
set_option linter.unusedVariables false
set_option linter.unusedSimpArgs false
namespace Go.Proofs.YtgipiplklaeplaaDoor
open Go.RowKit
def RLN (g L : Nat) (T : Option Addr) : World → Bool × List C → List Value → Prop := fun w p v => ∃ A n c, v = [.bool p.1, .slice A n c] ∧ IsC w A n c p.2 ∧ Off A n g ∧ Far T A n ∧ (∀ a, A = some a → L ≤ a.block)
theorem lit_stepN {X w5 w6 : World} {g L : Nat} {B B1 : Option Addr} {o : Obj} {u : Value} {p : Bool × List C} {v : List Value} (h : RLN g L B X p v) (hf : Below X.heap.size X w5) (hap : Apart (w5.alloc o) w6 B B1) : RLN g L B1 (w6.setCell ⟨g, 1, none⟩ u) p v := by
 obtain ⟨A, n, c, rfl, h1, h2, h3, h4⟩ := h
 have q2 := (h1.below hf).below ((Below.refl _ _).alloc (Nat.le_refl _) o)
 exact ⟨A, n, c, rfl, ⟨(q2.sl.far hap h3).but' (But.set w6 g 1 u) h2, q2.wf⟩, h2, h3.app hap q2.sl, h4⟩
theorem infoLitN : (Tryd.prog.info? 36).map (fun i => (i.zero, i.size, i.bytes)) = some (some (.agg #[.bool false, .slice none 0 0]), 2, 32) := by kernel_rfl
theorem one_litN (ng : Bool) (A : Option Addr) (n c : Nat) : ∀ u ∈ [Value.bool ng, .slice A n c], u.oneCell' = true := by
 intro u hu
 simp at hu
 rcases hu with rfl | rfl <;> rfl
theorem alloc_le (w : World) (o : Obj) : w.heap.size ≤ (w.alloc o).heap.size := by simp
def RetCl (w : World) (r : Raw) (e : Ending) (w' : World) : Prop := ∃ A n c B m d, e = .returned (.agg #[.slice A n c, .slice B m d]) ∧ IsC w' A n c r.1 ∧ IsLs w' B m d r.2 ∧ Below w.heap.size w w'
set_option maxRecDepth 100000 in
set_option maxHeartbeats 8000000 in
theorem rNumber10_any (A : Option Addr) (n c : Nat) (t : List C) (B : Option Addr) (m d : Nat) (b : List (Bool × List C)) (w : World) (h : IsC w A n c t) (hB : IsLs w B m d b)
  (hn : n ≤ 100000) (hm : m ≤ 100000) (hs : ∀ x ∈ b, x.2.length ≤ 100000) (hv : (varsLr (varsF t) b).length ≤ 100000) :
  Calls Tryd.prog 27 #[.agg #[.slice A n c, .slice B m d]] w (RetCl w (numR (t, b))) := by
 have hal : Below w.heap.size w ((w.alloc (.cells #[.slice A n c, .slice B m d] 25)).alloc (.cells #[.slice none 0 0, .slice none 0 0] 25)) := ((Below.refl _ _).alloc (Nat.le_refl _) _).alloc (by simp) _
 have hml := hB.len
 have Hml := Lib.hid hml
 have hcap := hB.cap_le
 obtain ⟨V, hV⟩ : ∃ V, varsLr (varsF t) b = V := ⟨_, rfl⟩
 have hvk : ∀ k, (varsLr (varsF t) (b.take k)).length ≤ 100000 := fun k => Nat.le_trans (varsLr_le b k _) hv
 rw [hV] at hv
 have Hvk := Lib.hid hvk
 have HV := Lib.hid hV
 have Hv := Lib.hid hv
 clear hml hV hvk hv
 go_enter Tryd.func27, Tryd.ntmps27
 go_upto_region 1 with fail
 refine wp_world' (Φ := fun X => Below w.heap.size w X ∧ X.heap[w.heap.size]? = some (.cells #[.slice A n c, .slice B m d] 25 (0, 0)) ∧ X.heap[w.heap.size + 1]? = some (.cells #[.slice none 0 0, .slice none 0 0] 25 (0, 0))) ⟨hal, (alloc_past (by simp)).trans (alloc_at rfl), alloc_at (by simp)⟩ ?_
 rintro X ⟨hbX, x0, x1⟩
 obtain ⟨g, hg⟩ : ∃ g, g = w.heap.size := ⟨_, rfl⟩
 rw [← hg] at x0 x1 ⊢
 have hgw : w.heap.size ≤ g := by omega
 have hlg : g + 1 < X.heap.size := block_lt x1
 have hHX := h.below hbX
 have hBX : IsLs X B m d b := IsG.below keepsLit hB hbX
 obtain ⟨y0, y1, yl⟩ := open2 x0
 obtain ⟨base, hbase⟩ : ∃ base, base = X.heap.size := ⟨_, rfl⟩
 have hvo := rVarsO_any A n c t X hHX hn
 rw [← hbase] at hvo hlg
 have Hvo := Lib.hid hvo
 have Hh := Lib.hid h
 have HB := Lib.hid hB
 have hbb : base ≤ X.heap.size := by omega
 have hbX0 : Below base X X := by rw [hbase]; exact Below.refl _ _
 have hbel : ∀ wr, Below base X wr → Below X.heap.size X wr := fun wr h => by rw [hbase] at h; exact h
 clear hg hal hvo h hB hbase
 go_wp2_with (first
  | (go_at_call 28; go_must (refine Hvo.out.mono ?_); rintro e w1 ⟨A3, n3, c3, rfl, hown3, hwf3, hb3⟩))
 have hb3' : Below base X w1 := hb3
 clear hb3
 go_loopw [3, 4] (fun vv iv wr => ∃ (k n3 c3 : Nat) (A3 : Option Addr) (xs : List Int), k ≤ m ∧ iv = .int .i64 k ∧ vv = .slice A3 n3 c3 ∧ Own0 wr base 3 1 (.slice A3 n3 c3) n3 (xs.map (Value.int .i64)) ∧ (∀ x ∈ xs, i64 x) ∧ Hid (xs = varsLr (varsF t) (b.take k)) ∧ Below base X wr ∧ (∀ a, A3 = some a → a.block < wr.heap.size)) (fun _ iv _ => m - (intOf iv).toNat)
 case atStart => exact ⟨0, n3, c3, A3, _, Nat.zero_le _, rfl, rfl, .inr hown3, hwf3, Lib.hid rfl, hb3', fun a ha => (Own0.lt hown3 a ha).2⟩
 case round =>
  clear hown3 hwf3 hb3'
  obtain ⟨k, n4, c4, A4, xs, hk, rfl, rfl, hown, hwx, hxs, hb, hlt4⟩ := hrel
  have hxl : n4 ≤ 100000 := by
   have := (Own0.sl hown (by omega)).len
   have h2 := Hvk.out k
   rw [← hxs.out] at h2
   simp at this
   omega
  have z0 := (hb.cell (p := ⟨g, 0, none⟩) (show g < base by omega)).trans y0
  have z1 := (hb.cell (p := ⟨g, 1, none⟩) (show g < base by omega)).trans y1
  by_cases hlt : k < m
  ·obtain ⟨p, hpk⟩ := hBX.get hlt
   obtain ⟨b1, o1, A1, n1, c1, rfl, hb1, i1, u0, u1⟩ := lits_at (IsG.below keepsLit hBX (hbel _ hb)) hpk
   have hp1 : n1 ≤ 100000 := by rw [← i1.len]; exact hs p (List.mem_of_getElem? hpk)
   have htk := varsLr_take (varsF t) hpk
   rw [← hxs.out, varsA_part] at htk
   have hl2 : ∀ ys l, mergeV ys l = mergeV xs (varsF p.2) → ys.length ≤ 100000 := fun ys l hyl => by
    have h1 := mergeV_le ys l
    have h2 := Hvk.out (k + 1)
    rw [htk, ← hyl] at h2
    omega
   have Htk := Lib.hid htk
   have Hl2 := Lib.hid hl2
   have hvo := rVarsO_any A1 n1 c1 p.2 wr i1 hp1
   have Hvo1 := Lib.hid hvo
   have hwl : (varsF p.2).length ≤ 100000 := by have := varsF_len p.2; rw [i1.len] at this; omega
   have Hwl := Lib.hid hwl
   have hp : (k : Int) < (m : Int) := by omega
   clear hpk htk hl2 hvo hxs hwl
   go_wp2_with (first
    | (go_at_call 28; go_must (refine Hvo1.out.mono ?_); rintro e w4 ⟨W1, wn, wc, rfl, hoW, hwW, hbn⟩))
   have hwn : wn ≤ 100000 := by have := hoW.1; simp at this; have := Hwl.out; omega
   have hWl : (varsF p.2).length = wn := by have := hoW.1; simpa using this
   have HWl := Lib.hid hWl
   have hW1 : IsI w4 W1 wn wc (varsF p.2) := ⟨Sl.own hoW (by omega), hwW⟩
   have hsep : ∀ a a', A4 = some a → W1 = some a' → a.block ≠ a'.block := fun a a' h1 h2 => by have := hlt4 a h1; have := Own0.lt hoW a' h2; omega
   have hown4 := hown.below hbn
   have hbr4 := hb.trans (hbn.mono (Nat.le_trans hbb hb.size))
   have hlt5 : ∀ a, A4 = some a → a.block < w4.heap.size := fun a h1 => Nat.lt_of_lt_of_le (hlt4 a h1) hbn.size
   clear hbn hoW hwW hown hb hlt4 hWl z0 z1 u0 u1 hxl
   go_loopw [3, 6] (fun vv jv wr => ∃ (j n5 c5 : Nat) (A5 : Option Addr) (ys : List Int), j ≤ wn ∧ jv = .int .i64 j ∧ vv = .slice A5 n5 c5 ∧ Own0 wr base 3 1 (.slice A5 n5 c5) n5 (ys.map (Value.int .i64)) ∧ (∀ x ∈ ys, i64 x) ∧ Hid (mergeV ys ((varsF p.2).drop j) = mergeV xs (varsF p.2)) ∧ Below base X wr ∧ (∀ a, A5 = some a → a.block < wr.heap.size) ∧ IsI wr W1 wn wc (varsF p.2) ∧ (∀ a a', A5 = some a → W1 = some a' → a.block ≠ a'.block)) (fun _ jv _ => wn - (intOf jv).toNat)
   case atStart => exact ⟨0, n4, c4, A4, xs, Nat.zero_le _, rfl, rfl, hown4, hwx, Lib.hid rfl, hbr4, hlt5, hW1, hsep⟩
   case round =>
    clear hown4 hbr4 hlt5 hW1 hsep
    obtain ⟨j, n5, c5, A5, ys, hj, rfl, rfl, hown2, hwa2, hres2, hbr, hltr, hWr, hsepr⟩ := hrel
    have hacc2 : IsI wr A5 n5 c5 ys := ⟨Own0.sl hown2 (by omega), hwa2⟩
    have hyl : n5 ≤ 100000 := by
     have := hacc2.len
     have h2 := Hl2.out _ _ hres2.out
     omega
    by_cases hlt2 : j < wn
    ·obtain ⟨x, hxj⟩ := hWr.get hlt2
     obtain ⟨bW, offW, rfl, hbW, hwx2, hx0⟩ := hWr.at_ hxj
     have hd := drop_get hxj
     have Hd := Lib.hid hd
     clear hxj hd
     have hcon := In_any A5 n5 c5 ys x
     cases hin : inI ys x
     ·rw [hin] at hcon
      have Hcon := Lib.hid hcon
      have Hin := Lib.hid hin
      clear hcon hin
      go_wp2_with (first
       | (go_at_call 66; go_must (refine (Hcon.out _ hacc2 (by omega)).mono ?_); rintro e w1 ⟨rfl, rfl⟩)
       | (at_builtin; go_must (refine wpList_append_own1 rfl (.tmp 39) (.tmp 44) 42 rfl base 3 Tryd.underlying42 infoI rfl (by omega) rfl (hown2.below ((Below.refl _ _).alloc (Nat.le_refl _) _)) rfl (Sl.lit _ _ [.int .i64 x] 3 1 1 (by simp) rfl (by simp [maxLen])) (one1 rfl) (by omega) (by omega) (by omega) (by have := hbr.size; simp; omega) ?_); intro A' cap' w5 hown5 hb5 hap))
      have hb6 : Below base X w5 := Below.trans (hbr.alloc (Nat.le_trans hbb hbr.size) _) hb5
      have hW5 : IsI w5 (some ⟨bW, offW, none⟩) wn wc (varsF p.2) := (hWr.below ((Below.refl _ _).alloc (Nat.le_refl _) _)).apart hap hsepr
      have hblk := hap.blk
      clear hap hb5
      go_roundw
      case rel =>
       refine ⟨j + 1, n5 + 1, cap', A', ys ++ [x], by omega, by go_num, rfl, .inr (by simpa using hown5), ?_, Lib.hid ?_, hb6, fun a h => (hblk a h).1, hW5, ?_⟩
       ·intro y hy
        rcases List.mem_append.1 hy with hy | hy
        ·exact hwa2 y hy
        ·simp at hy; subst hy; exact hwx2
       ·have := hres2.out
        rw [Hd.out, mergeV_step, if_neg (by simp [Hin.out])] at this
        exact this
       ·rintro a a' ha ha'
        cases ha'
        rcases (hblk a ha).2 with ⟨a0, h0, h1⟩ | h1
        ·rw [h1]; exact hsepr a0 _ h0 rfl
        ·simp at h1 ⊢; omega
      case measure => simp [intOf]; omega
     ·rw [hin] at hcon
      have Hcon := Lib.hid hcon
      have Hin := Lib.hid hin
      clear hcon hin
      go_wp2_with (first
       | (go_at_call 66; go_must (refine (Hcon.out _ hacc2 (by omega)).mono ?_); rintro e w1 ⟨rfl, rfl⟩))
      go_roundw
      case rel =>
       refine ⟨j + 1, n5, c5, A5, ys, by omega, by go_num, rfl, hown2, hwa2, Lib.hid ?_, hbr, hltr, hWr, hsepr⟩
       have := hres2.out
       rw [Hd.out, mergeV_step, if_pos Hin.out] at this
       exact this
      case measure => simp [intOf]; omega
    ·have hacc3 : ys = varsLr (varsF t) (b.take (k + 1)) := by
      have := hres2.out
      rw [drop_end HWl.out hlt2] at this
      rw [Htk.out, ← this]; rfl
     have Hacc3 := Lib.hid hacc3
     clear hacc3 hres2
     go_wp2
     go_roundw
     case rel => exact ⟨k + 1, n5, c5, A5, ys, by omega, by go_num, rfl, hown2, hwa2, Hacc3, hbr, hltr⟩
     case measure => simp [intOf]; omega
  ·have hxV : xs = V := by
    have := hxs.out
    rw [List.take_of_length_le (by have := Hml.out; omega), HV.out] at this
    exact this
   subst hxV
   have hVI : IsI wr A4 n4 c4 xs := ⟨Own0.sl hown (by omega), hwx⟩
   have hbw : Below w.heap.size w wr := hbX.trans (hb.mono (by omega))
   have hturn := fun (A' : Option Addr) n' c' t' w' (hb' : Below wr.heap.size wr w') (h' : IsC w' A' n' c' t') (hn' : n' ≤ 100000) => rturn_any A' n' c' t' A4 n4 c4 xs w' h' hn' (hVI.below hb') hxl
   have Hturn := Lib.hid hturn
   have hHr := hHX.below (hbel _ hb)
   have hBr : IsLs wr B m d b := IsG.below keepsLit hBX (hbel _ hb)
   have x1r := (hb.block (g + 1) (by omega)).trans x1
   have x0r := (hb.block g (by omega)).trans x0
   clear hturn hown hwx hxs hVI hlt4 hHX hBX hbX hb
   obtain ⟨w7, hw7⟩ : ∃ w7, w7 = wr := ⟨_, rfl⟩
   subst hw7
   go_wp2_with (first
    | (go_at_call 67; go_must (refine (Hturn.out A n c t _ (Below.refl _ _) hHr hn).mono ?_); rintro e w6 ⟨A6, n6, c6, rfl, hR6, hn6, hb6⟩))
   have x06 := (hb6.block g (block_lt x0r)).trans x0r
   have x16 := (hb6.block (g + 1) (block_lt x1r)).trans x1r
   refine wp_world' (Φ := fun V => Below w6.heap.size w6 V ∧ V.heap[w6.heap.size]? = some (.cells #[.slice A6 n6 c6, .slice none 0 0] 25 (0, 0))) ⟨(Below.refl _ _).alloc (Nat.le_refl _) _, alloc_at rfl⟩ ?_
   rintro V ⟨hbV, v7⟩
   obtain ⟨g7, hg7⟩ : ∃ g7, g7 = w6.heap.size := ⟨_, rfl⟩
   rw [← hg7] at v7 ⊢
   have h67 : w6.heap.size ≤ g7 := by omega
   have hg17 : g + 1 < g7 := by have := block_lt x16; omega
   obtain ⟨base2, hbase2⟩ : ∃ base2, base2 = V.heap.size := ⟨_, rfl⟩
   have hVl := block_lt v7
   have hbwV : Below w7.heap.size w7 V := hb6.trans (hbV.mono hb6.size)
   have hR6V : IsC V A6 n6 c6 (turnF (placeI xs) t) := hR6.below hbV
   have hg1L := block_lt x1r
   obtain ⟨L7, hL7⟩ : ∃ L7, L7 = w7.heap.size := ⟨_, rfl⟩
   have hn6' : ∀ a, A6 = some a → L7 ≤ a.block := fun a ha => by rw [hL7]; exact hn6 a ha
   rw [← hL7] at hg1L
   have hOff6 : Off A6 n6 g7 := by
    intro hn a ha
    obtain ⟨q, off, hq, hlt, _⟩ := hR6.sl.cells hn
    rw [hq] at ha; cases ha
    simp only; omega
   have hlw : w7.heap.size ≤ g7 := by have := hb6.size; omega
   have v0 := (hbV.block g (block_lt x06)).trans x06
   have v1 := (hbV.block (g + 1) (block_lt x16)).trans x16
   clear x0r x1r x06 x16 hR6 hbV hb6 hg7 h67 hHr
   go_wp2
   go_loopw [8] (fun iv wr => ∃ (k : Nat) (B9 : Option Addr) (d9 : Nat), k ≤ m ∧ iv = .int .i64 k ∧ wr.heap[g7]? = some (.cells #[.slice A6 n6 c6, .slice B9 k d9] 25 (0, 0)) ∧ wr.heap[g]? = some (.cells #[.slice A n c, .slice B m d] 25 (0, 0)) ∧ wr.heap[g + 1]? = some (.cells #[.slice none 0 0, .slice none 0 0] 25 (0, 0)) ∧
     IsC wr A6 n6 c6 (turnF (placeI xs) t) ∧ Far B9 A6 n6 ∧ TailG (RLN g7 L7 B9) 2 wr base2 36 B9 k d9 ((b.take k).map fun p => (p.1, turnF (placeI xs) p.2)) ∧ (∀ a, B9 = some a → base2 ≤ a.block ∧ a.block < wr.heap.size) ∧ Below w7.heap.size w7 wr ∧ base2 ≤ wr.heap.size) (fun iv _ => m - (intOf iv).toNat)
   case atStart => exact ⟨0, none, 0, Nat.zero_le _, rfl, v7, v0, v1, hR6V, (fun a ha => by cases ha), TailG.nil _ _ _ _, (fun a ha => by cases ha), hbwV, by omega⟩
   case round =>
    clear v7 v0 v1 hR6V hbwV
    obtain ⟨k, B9, d9, hk, rfl, q7, q0, q1, hI6, hf6, hT9, hB9, hbq, hlq⟩ := hrel
    obtain ⟨z0, z1, zl⟩ := open2 q0
    obtain ⟨o0, o1, ol⟩ := open2 q7
    have fr1 := frozen_of q7 1
    have hBq : IsLs wr B m d b := IsG.below keepsLit hBr hbq
    by_cases hlt : k < m
    ·obtain ⟨p, hpk⟩ := hBq.get hlt
     obtain ⟨b1, o1', A1, n1, c1, rfl, hb1, i1, u0, u1⟩ := lits_at hBq hpk
     have hp1 : n1 ≤ 100000 := by rw [← i1.len]; exact hs p (List.mem_of_getElem? hpk)
     have htk : (b.take (k + 1)).map (fun p => (p.1, turnF (placeI xs) p.2)) = (b.take k).map (fun p => (p.1, turnF (placeI xs) p.2)) ++ [(p.1, turnF (placeI xs) p.2)] := by
      obtain ⟨hl, he⟩ := List.getElem?_eq_some_iff.1 hpk
      rw [List.take_succ_eq_append_getElem hl, he, List.map_append]; rfl
     have Htk := Lib.hid htk
     have hcapm := hcap.1
     have hp : (k : Int) < (m : Int) := by omega
     have htu := fun w' (hb' : Below wr.heap.size wr w') => Hturn.out A1 n1 c1 p.2 w' (hbq.trans (hb'.mono hbq.size)) (i1.below hb') hp1
     have Htu := Lib.hid htu
     obtain ⟨us, s1, s2, s3, s4⟩ := hT9.rows
     have hgq : g < wr.heap.size := zl
     have hne7 : ∀ a, B9 = some a → a.block ≠ g7 := fun a ha => by have := (hB9 a ha).1; omega
     have Hs := Lib.hid hs
     have HbX := Lib.hid hbX0
     have hk12 : k + 1 ≤ 1000000000000 := by omega
     have Hk12 := Lib.hid hk12
     clear hpk htk htu hs x0 x1 y0 y1 hbX0 hbel hBr hBq hn hm hlg hbb hk12
     go_upto_region 15 with fail
     go_region_law
      (first
       | (refine step_append_any (xs := us.flatten) (by rfl) (.tmp 59) (.tmp 75) 23 (by rfl) base2 36 Tryd.underlying23 infoLitN (by rfl) (by omega) (by rfl) ?_ ?_ (by rfl) ?_ (one_litN p.1 A8 n8 c8) (Hk12.out) (by omega) ?_ ?_ ?_; (focus (exact (s3.below hb8').below ((Below.refl _ _).alloc (Nat.le_refl _) _))); (focus (exact fun b hb => Nat.lt_of_lt_of_le (hB9 b hb).2 (Nat.le_trans hs8 (alloc_le _ _)))); (focus (exact Sl.blk (cs := #[.bool p.1, .slice A8 n8 c8]) (t := 36) (alloc_at rfl) rfl (by simp [maxLen]))); (focus (exact Nat.le_trans hlq (Nat.le_trans hs8 (alloc_le _ _)))); (focus (exact s3.none_cap)); intro B1 d1 w9 ht9 hbn9 hap9; have x79 := (hap9.old g7 (Nat.lt_of_lt_of_le (block_lt x78) (alloc_le _ _)) hne7).trans ((alloc_past (block_lt x78)).trans x78); have k2 := cells_of x79 1; have kf2 := frozen_of x79 1; have kl2 := block_lt x79; simp at k2)
       | (go_simp; go_at_call 67; refine (Htu.out _ (Below.refl _ _).drew).mono ?_; rintro e8 w8 ⟨A8, n8, c8, rfl, hI8, hn8, hb8⟩; have hb8' : Below wr.heap.size wr w8 := ((Below.refl _ _).drew).trans hb8; have hs8 := hb8'.size; have x78 := (hb8'.block g7 ol).trans q7; have x08 := (hb8'.block g zl).trans q0; have k1 := cells_of x78 1; have kf := frozen_of x78 1; have kl := block_lt x78; obtain ⟨k0a, k0b, k0l⟩ := open2 x08; have uu0 := (hb8'.cell (p := ⟨b1, o1' + k * 2, none⟩) hb1).trans u0; have uu1 := (hb8'.cell (p := ⟨b1, o1' + k * 2 + 1, none⟩) hb1).trans u1; have hb18 := Nat.lt_of_lt_of_le hb1 hs8; simp at k1)
       | fail)
     all_goals
      have hu : RLN g7 L7 B1 (w9.setCell ⟨g7, 1, none⟩ (.slice B1 (k + 1) d1)) (true, turnF (placeI xs) t) [.bool true, .slice A6 n6 c6] := lit_stepN ⟨A6, n6, c6, rfl, hI6, hOff6, hf6, hn6'⟩ hb8' hap9
      obtain ⟨A6', n6', c6', hHe, hH1, _, hH3, _⟩ := hu
      simp only [List.cons.injEq, Value.slice.injEq, Value.bool.injEq, true_and, and_true] at hHe
      obtain ⟨rfl, rfl, rfl⟩ := hHe
      have h8lt : ∀ a, A8 = some a → wr.heap.size ≤ a.block := fun a ha => hn8 a ha
      have hB1 : ∀ a, B1 = some a → base2 ≤ a.block ∧ a.block < w9.heap.size := fun a ha => by
       obtain ⟨p1, p2⟩ := hap9.blk a ha
       rcases p2 with ⟨a0, p3, p4⟩ | p2
       ·rw [p4]; exact ⟨(hB9 a0 p3).1, by rw [← p4]; exact p1⟩
       ·simp at p2; exact ⟨by omega, p1⟩
      have h8a := hI8.below ((Below.refl _ _).alloc (Nat.le_refl _) (.cells #[.bool p.1, .slice A8 n8 c8] 36))
      have h8f : Far B9 A8 n8 := fun a ha hn a' ha' he => by have := (hB9 a ha).2; have := h8lt a' ha'; omega
      have hnewL : RLN g7 L7 B1 (w9.setCell ⟨g7, 1, none⟩ (.slice B1 (k + 1) d1)) (p.1, turnF (placeI xs) p.2) [.bool p.1, .slice A8 n8 c8] := ⟨A8, n8, c8, rfl, ⟨(h8a.sl.far hap9 h8f).but' (But.set w9 g7 1 _) (fun _ a ha => by have := h8lt a ha; omega), h8a.wf⟩, fun _ a ha => by have := h8lt a ha; omega, h8f.app hap9 h8a.sl, fun a ha => by have := h8lt a ha; have := hbq.size; omega⟩
      have hTl : TailG (RLN g7 L7 B1) 2 (w9.setCell ⟨g7, 1, none⟩ (.slice B1 (k + 1) d1)) base2 36 B1 (k + 1) d1 (((b.take k).map fun p => (p.1, turnF (placeI xs) p.2)) ++ [(p.1, turnF (placeI xs) p.2)]) := TailG.snoc (ht9.at_ fun a ha => set_other (by have := (hB1 a ha).1; omega) _) hT9.len s1 s2 rfl (fun q x v hx hv => lit_stepN (s4 q x v hx hv) hb8' hap9) hnewL
      have hz7 := set_block (k := 1) x79 (.slice B1 (k + 1) d1)
      simp at hz7
      have hz0 : (w9.setCell ⟨g7, 1, none⟩ (.slice B1 (k + 1) d1)).heap[g]? = _ := (set_other (by omega) _).trans ((hap9.old g (by simp; omega) (fun a ha => by have := (hB9 a ha).1; omega)).trans ((alloc_past (by omega)).trans x08))
      have hz1 : (w9.setCell ⟨g7, 1, none⟩ (.slice B1 (k + 1) d1)).heap[g + 1]? = _ := (set_other (by omega) _).trans ((hap9.old (g + 1) (by simp; omega) (fun a ha => by have := (hB9 a ha).1; omega)).trans ((alloc_past (by omega)).trans ((hb8'.block (g + 1) (by omega)).trans q1)))
      have hbl : Below w7.heap.size w7 w9 := ((hbq.trans (hb8'.mono hbq.size)).alloc (by have := hbq.size; omega) _).trans (hbn9.mono (by have := hbq.size; omega))
      have hk12 := Hk12.out
      go_wp2_with fail
      go_roundw
      case rel => exact ⟨k + 1, B1, d1, by omega, by go_num, hz7, hz0, hz1, hH1, hH3, by rw [Htk.out]; exact hTl, fun a ha => ⟨(hB1 a ha).1, by simpa using (hB1 a ha).2⟩, Below.setCell hbl hlw _, Nat.le_trans (Nat.le_trans hlq (Nat.le_trans hs8 (alloc_le _ _))) (Nat.le_trans hap9.size (by simp))⟩
      case measure => simp [intOf]; omega
    ·have hkm : k = m := by omega
     subst hkm
     obtain ⟨rr0, rr1, rrl⟩ := open2 q1
     have re0 := frozen_of q1 0
     have re1 := frozen_of q1 1
     go_wp2
     refine bodyPost_ret (v := .agg #[.slice A6 n6 c6, .slice B9 k d9]) (by simp [results, Tryd.results27, go_sem, *]) rfl ?_
     have hbut : But wr ((wr.setCell ⟨g + 1, 0, none⟩ (.slice A6 n6 c6)).setCell ⟨g + 1, 1, none⟩ (.slice B9 k d9)) (g + 1) := (But.set wr (g + 1) 0 _).setB _
     refine ⟨A6, n6, c6, B9, k, d9, rfl, ?_, ?_, Below.setCell (Below.setCell (hbw.trans (hbq.mono hbw.size)) (by simp only; omega) _) (by simp only; omega) _⟩
     ·have hh : IsC wr A6 n6 c6 (numR (t, b)).1 := by unfold numR; simp only; rw [HV.out]; exact hI6
      exact ⟨hh.sl.but' hbut (fun _ a ha => by have := hn6' a ha; omega), hh.wf⟩
     ·have hfull : (numR (t, b)).2 = (b.take k).map fun p => (p.1, turnF (placeI xs) p.2) := by
       unfold numR; simp only
       rw [HV.out, List.take_of_length_le (by have := Hml.out; omega)]
      rw [hfull]
      obtain ⟨us, s1, s2, s3, s4⟩ := hT9.rows
      exact ⟨hT9.len, us, s1, s2, (s3.sl (by omega)).but' hbut (fun _ a ha => by have := (hB9 a ha).1; omega), fun q x v hx hv => by
       obtain ⟨A, n, c, h1, h2, h3, h4, h5⟩ := s4 q x v hx hv
       exact ⟨A, n, c, h1, h2.sl.but' hbut (fun _ a ha => by have := h5 a ha; omega), h2.wf⟩⟩
end Go.Proofs.YtgipiplklaeplaaDoor
