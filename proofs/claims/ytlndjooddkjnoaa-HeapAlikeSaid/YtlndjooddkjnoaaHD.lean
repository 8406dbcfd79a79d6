/- The walk of the code's Right. -/
import Derived.Deep.CutBlock
import Derived.Test.YtlndjooddkjnoaaHC
import Derived.Test.YtlndjooddkjnoaaHB
set_option linter.unusedVariables false
set_option linter.unusedSimpArgs false
namespace Go.Proofs.Ytlndjooddkjnoaa
open Go.RowKit

theorem infoI8 : (Try.prog.info? 3).map (fun i => (i.zero, i.size, i.bytes)) = some (some (.int .i64 0), 1, 8) := by kernel_rfl
set_option maxRecDepth 100000 in
set_option maxHeartbeats 4000000 in
theorem hRight_any (A B : Option Addr) (n c m d : Nat) (r : Int) (l : List C) (tr : List Int) (w : World) (h : IsC w A n c l) (hT : IsI w B m d tr) (hn : n ≤ 100000) (hm : m ≤ 100000) :
    Calls Try.prog 12 #[.agg #[.slice A n c, .slice B m d, .int .i64 r]] w (RetV w (.bool (rightH ⟨l, tr, r⟩))) := by
  have hmf : ∀ (fn : Fn) (first cap : Array Value) (w : World), (Instr.makeFunc fn first cap).run Try.prog w = .ok (.func fn first cap) w := fun _ _ _ _ => rfl
  have hmk : ∀ w, (Instr.makeSlice 23 (.int .i64 (n : Int)) (.int .i64 (n : Int))).run Try.prog w = .ok (.slice (some ⟨w.heap.size, 0, none⟩) n n) (w.alloc (.cells (madeCells #[.int .i64 0] n) 3)) := fun w =>
    run_make_row' 23 3 (.int .i64 0) 8 Try.underlying23 infoI8 rfl .i64 .i64 n (by omega) (by omega) w
  have hl := h.len
  have Hl := Lib.hid hl
  have htl := hT.len
  have Htl := Lib.hid htl
  have HC := Lib.hid h
  have HT := Lib.hid hT
  generalize hR : rightH ⟨l, tr, r⟩ = R
  have HR := Lib.hid hR
  have hb0 : Below w.heap.size w (w.alloc (.cells #[.slice A n c, .slice B m d, .int .i64 r] 25)) := (Below.refl _ _).alloc (Nat.le_refl _) _
  have hx00 : (w.alloc (.cells #[.slice A n c, .slice B m d, .int .i64 r] 25)).heap[w.heap.size]? = some (.cells #[.slice A n c, .slice B m d, .int .i64 r] 25 (0, 0)) := alloc_at rfl
  have Hx00 := Lib.hid hx00
  clear hl htl h hT hR hx00
  by_cases r1 : r < 1
  · have hno : Hid (rightH ⟨l, tr, r⟩ = false) := Lib.hid (by unfold rightH; simp; omega)
    clear hmf hmk
    go_enter Try.func12, Try.ntmps12
    go_wp2
    go_ret
    exact ⟨ret_bool (hno.out.symm.trans HR.out), hb0⟩
  have hr1 : 1 ≤ r := by omega
  clear r1
  by_cases r2 : r > 4096
  · have hno : Hid (rightH ⟨l, tr, r⟩ = false) := Lib.hid (by unfold rightH; simp; omega)
    clear hmf hmk
    go_enter Try.func12, Try.ntmps12
    go_wp2
    go_ret
    exact ⟨ret_bool (hno.out.symm.trans HR.out), hb0⟩
  have hr2 : r ≤ 4096 := by omega
  clear r2
  by_cases r3 : (n : Int) > r
  · have hno : Hid (rightH ⟨l, tr, r⟩ = false) := Lib.hid (by unfold rightH; simp [Hl.out]; omega)
    clear hmf hmk
    go_enter Try.func12, Try.ntmps12
    go_wp2
    go_ret
    exact ⟨ret_bool (hno.out.symm.trans HR.out), hb0⟩
  have hr3 : (n : Int) ≤ r := by omega
  clear r3
  have hroom : Hid (rightH ⟨l, tr, r⟩ = (shpB l && (trOkB l tr && !(roundB l)))) := Lib.hid (by
    unfold rightH
    have : ((decide (1 ≤ r) && decide (r ≤ 4096)) && decide ((l.length : Int) ≤ r)) = true := by simp [Hl.out]; omega
    rw [this, Bool.true_and])
  have hsh := hshaped_any A B n c m d r l _ (HC.out.below hb0) hn
  cases hs : shpB l
  · rw [hs] at hsh
    have Hsh := Lib.hid hsh
    have hno : Hid (rightH ⟨l, tr, r⟩ = false) := Lib.hid (by rw [hroom.out, hs]; rfl)
    clear hmf hmk hs hsh
    go_enter Try.func12, Try.ntmps12
    go_wp2_with (first | (go_at_call 41; go_must (refine Hsh.out.mono ?_); rintro e w1 ⟨rfl, hb1⟩))
    go_ret
    exact ⟨ret_bool (hno.out.symm.trans HR.out), hb0.trans (hb1.mono hb0.size)⟩
  rw [hs] at hsh
  have Hsh := Lib.hid hsh
  have Hshp := Lib.hid hs
  have hroom2 : Hid (rightH ⟨l, tr, r⟩ = (trOkB l tr && !(roundB l))) := Lib.hid (by rw [hroom.out, Hshp.out]; rfl)
  clear hs hsh
  have Hmf := Lib.hid hmf
  have Hmk := Lib.hid hmk
  clear hmf hmk
  go_enter Try.func12, Try.ntmps12
  go_wp2_with (first | (go_at_call 41; go_must (refine Hsh.out.mono ?_); rintro e w1 ⟨rfl, hb1⟩; have hx1 := (hb1.block w.heap.size (by simp)).trans Hx00.out; obtain ⟨y0, y1, y2, yl⟩ := open3 hx1))
  have hb2 := hb0.trans (hb1.mono hb0.size)
  have Hx1 := Lib.hid hx1
  clear hb0 hb1 hx1 y0 y1 y2 yl Hx00
  go_loopw [32] (fun iv wr => ∃ i : Nat, i ≤ m ∧ iv = .int .i64 i ∧ Hid (∀ j x, j < i → tr[j]? = some x → trOne l tr j x = true) ∧ Below w.heap.size w wr ∧ wr.heap[w.heap.size]? = some (.cells #[.slice A n c, .slice B m d, .int .i64 r] 25 (0, 0))) (fun iv _ => m - (intOf iv).toNat)
  case atStart => exact ⟨0, Nat.zero_le _, rfl, Lib.hid (fun j x hj => by omega), hb2, Hx1.out⟩
  case round =>
    clear hb2 Hx1
    obtain ⟨i, hi, rfl, hall2, hb, hx0⟩ := hrel
    obtain ⟨y0, y1, y2, yl⟩ := open3 hx0
    have Hx0 := Lib.hid hx0
    clear hx0
    by_cases him : i < m
    · obtain ⟨x, hxi⟩ := HT.out.get him
      obtain ⟨bt, ot, rfl, hbt, hwx, hct⟩ := HT.out.at_ hxi
      have htc := HT.out.sl.hcap
      have htm := HT.out.sl.hmax
      unfold maxLen at htm
      have hid : i ≤ d := by omega
      have hwi := fun w2 => hwithin_any A (some ⟨bt, ot, none⟩) n c m d r x w2 hn
      have hcon := fun w2 (hb2 : Below w.heap.size w w2) => containsI_any (some ⟨bt, ot, none⟩) i d (tr.take i) x w2 ((HT.out.below hb2).take hi) (by omega)
      have Hxi := Lib.hid hxi
      have hct1 := (hb.cell (p := ⟨bt, ot + i, none⟩) hbt).trans hct
      clear hxi hct
      cases hin : (decide (0 ≤ x) && decide (x < (n : Int)))
      · rw [hin] at hwi
        have Hwi := Lib.hid hwi
        have hno : Hid (rightH ⟨l, tr, r⟩ = false) := Lib.hid (by rw [hroom2.out, trOkB_no Hxi.out (by simp only [trOne, bIn, Hl.out, hin]; rfl)]; rfl)
        clear hwi hcon hin
        go_wp2_with (first | (go_at_call 42; go_must (refine (Hwi.out _).mono ?_); rintro e w1 ⟨rfl, hb1⟩))
        go_ret
        exact ⟨ret_bool (hno.out.symm.trans HR.out), hb.trans (hb1.mono hb.size)⟩
      · rw [hin] at hwi
        have Hwi := Lib.hid hwi
        have hin2 := hin
        simp at hin2
        obtain ⟨q, rfl⟩ : ∃ q : Nat, x = q := ⟨x.toNat, by omega⟩
        have hqn : q < n := by omega
        have Hin := Lib.hid hin
        have hbo := fun w2 (hb2 : Below w.heap.size w w2) => hbound_any A n c l q w2 (HC.out.below hb2) hn hqn
        clear hwi hin hin2
        cases hB : bndB l q
        · rw [hB] at hbo
          have Hbo := Lib.hid hbo
          have hno : Hid (rightH ⟨l, tr, r⟩ = false) := Lib.hid (by rw [hroom2.out, trOkB_no Hxi.out (by simp only [trOne, bIn, Int.toNat_natCast, hB, Bool.and_false, Bool.false_and])]; rfl)
          clear hbo hcon hB
          go_wp2_with (first
            | (go_at_call 42; go_must (refine (Hwi.out _).mono ?_); rintro e w1 ⟨rfl, hb1⟩; have hbw1 := hb.trans (hb1.mono hb.size); have x1 := (hb1.block w.heap.size yl).trans Hx0.out; obtain ⟨v0, v1, v2, vl⟩ := open3 x1)
            | (go_at_call 43; go_must (refine (Hbo.out _ hbw1).mono ?_); rintro e w2 ⟨rfl, rfl⟩))
          go_ret
          exact ⟨ret_bool (hno.out.symm.trans HR.out), hbw1⟩
        · rw [hB] at hbo
          have Hbo := Lib.hid hbo
          have HB := Lib.hid hB
          clear hbo hB
          cases hI : inI (tr.take i) (q : Int)
          · rw [hI] at hcon
            have Hcon := Lib.hid hcon
            have HI := Lib.hid hI
            clear hcon hI
            go_wp2_with (first
              | (go_at_call 42; go_must (refine (Hwi.out _).mono ?_); rintro e w1 ⟨rfl, hb1⟩; have hbw1 := hb.trans (hb1.mono hb.size); have x1 := (hb1.block w.heap.size yl).trans Hx0.out; obtain ⟨v0, v1, v2, vl⟩ := open3 x1)
              | (go_at_call 43; go_must (refine (Hbo.out _ hbw1).mono ?_); rintro e w2 ⟨rfl, rfl⟩)
              | (go_at_call 44; go_must (refine (Hcon.out _ hbw1).mono ?_); rintro e w3 ⟨rfl, rfl⟩))
            go_roundw
            case rel =>
              refine ⟨i + 1, by omega, by go_num, Lib.hid (fun j y hj hy => ?_), hbw1, x1⟩
              by_cases e : j = i
              · subst e
                rw [Hxi.out] at hy
                cases hy
                simp only [trOne, bIn, Hl.out, Hin.out, Int.toNat_natCast, HB.out, HI.out]
                rfl
              · exact hall2.out j y (by omega) hy
            case measure => simp [intOf]; omega
          · rw [hI] at hcon
            have Hcon := Lib.hid hcon
            have hno : Hid (rightH ⟨l, tr, r⟩ = false) := Lib.hid (by rw [hroom2.out, trOkB_no Hxi.out (by simp [trOne, hI])]; rfl)
            clear hcon hI
            go_wp2_with (first
              | (go_at_call 42; go_must (refine (Hwi.out _).mono ?_); rintro e w1 ⟨rfl, hb1⟩; have hbw1 := hb.trans (hb1.mono hb.size); have x1 := (hb1.block w.heap.size yl).trans Hx0.out; obtain ⟨v0, v1, v2, vl⟩ := open3 x1)
              | (go_at_call 43; go_must (refine (Hbo.out _ hbw1).mono ?_); rintro e w2 ⟨rfl, rfl⟩)
              | (go_at_call 44; go_must (refine (Hcon.out _ hbw1).mono ?_); rintro e w3 ⟨rfl, rfl⟩))
            go_ret
            exact ⟨ret_bool (hno.out.symm.trans HR.out), hbw1⟩
    · have hin2 : i = m := by omega
      subst hin2
      have htr := trOkB_mk (l := l) (tr := tr) (fun j x hx => hall2.out j x (by have := (List.getElem?_eq_some_iff.1 hx).1; have := Htl.out; omega) hx)
      have hfin : Hid (rightH ⟨l, tr, r⟩ = !(roundB l)) := Lib.hid (by rw [hroom2.out, htr]; rfl)
      have hmf := Hmf.out
      have hmk := Hmk.out
      clear htr Hmf Hmk
      obtain ⟨gst, hgst⟩ : ∃ gst, gst = wr.heap.size := ⟨_, rfl⟩
      have hwz := hb.size
      go_upto_region 12 with fail
      clear hmf hmk
      refine wp_world' (Φ := fun X => Below w.heap.size w X ∧ gst + 2 < X.heap.size ∧ X.heap[w.heap.size]? = some (.cells #[.slice A n c, .slice B i d, .int .i64 r] 25 (0, 0)) ∧ X.rowIs gst 3 n (fun j => .int .i64 ((fun _ => 0 : Nat → Nat) j : Nat)) ∧
        X.heap[gst + 1]? = some (.cells #[.slice (some ⟨gst, 0, none⟩) n n] 23 (0, 0)) ∧ X.heap[gst + 1 + 1]? = some (.cells #[.func (.func 45) #[] #[.pointer (some ⟨gst + 1, 0, none⟩), .pointer (some ⟨w.heap.size, 0, none⟩), .pointer (some ⟨gst + 1 + 1, 0, none⟩)]] 70 (0, 0)))
        ?_ ?_
      · subst hgst
        refine ⟨((hb.alloc hb.size _).alloc (by first | omega | (simp; done) | (simp; omega)) _).alloc (by first | omega | (simp; done) | (simp; omega)) _, (by first | omega | (simp; done) | (simp; omega)), (alloc_past (by first | omega | (simp; done) | (simp; omega))).trans ((alloc_past (by first | omega | (simp; done) | (simp; omega))).trans ((alloc_past (by first | omega | (simp; done) | (simp; omega))).trans Hx0.out)), ?_, (alloc_past (by first | omega | (simp; done) | (simp; omega))).trans (alloc_at (by first | omega | (simp; done) | (simp; omega))), alloc_at (by first | omega | (simp; done) | (simp; omega))⟩
        exact (((World.rowIs_made wr (.int .i64 0) n 3).congr fun i hi => by simp).alloc _).alloc _
      rintro X ⟨hbX, hsX, x0, hrow0, xs, xk⟩
      have hd0 : DfI l (fun _ => 0) := ⟨⟨fun _ => 0, fun p hp => by simp at hp⟩, fun p => by simp⟩
      have HX0 := Lib.hid x0
      have HXs := Lib.hid xs
      have HXk := Lib.hid xk
      have Hrow0 := Lib.hid hrow0
      have Hd0 := Lib.hid hd0
      have HbX := Lib.hid hbX
      have hgw : w.heap.size ≤ gst := by omega
      have hgw2 : w.heap.size < gst := by omega
      have hgX : gst < X.heap.size := by omega
      obtain ⟨y0', y1', y2', yl'⟩ := open3 x0
      rw [← hgst]
      clear y0 y1 y2 yl hb Hx0 hwz hgst hrow0 xs xk hd0 x0 hbX hsX
      go_wp2
      clear y0' y1' y2' yl'
      go_loopw [65] (fun iv wr => ∃ (p : Nat) (s : Nat → Nat), p ≤ n ∧ iv = .int .i64 p ∧ Hid (Kq gst X wr) ∧ Hid (wr.rowIs gst 3 n (fun j => .int .i64 (s j : Nat))) ∧ Hid (DfI l s) ∧ Hid (∀ q, s q ≠ 1) ∧ Hid (∀ j, j < p → s j = 2)) (fun iv _ => n - (intOf iv).toNat)
      case atStart => exact ⟨0, fun _ => 0, Nat.zero_le _, rfl, Lib.hid (Kq.refl _ _), Hrow0, Hd0, Lib.hid (fun q => by simp), Lib.hid (fun j hj => by omega)⟩
      case round =>
        obtain ⟨p, s, hp, rfl, hK, hrow, hD, hone, htwo⟩ := hrel
        have e0 := (hK.out.old _ (block_lt HX0.out) (by omega)).trans HX0.out
        have e2 := (hK.out.old _ (block_lt HXk.out) (by omega)).trans HXk.out
        obtain ⟨y0, y1, y2, yl⟩ := open3 e0
        have yk := cells_of e2 0
        simp at yk
        have ykl := block_lt e2
        clear e0 e2
        by_cases hpn : p < n
        · have hAg : ∀ a, A = some a → a.block ≠ gst := fun a ha => by
            obtain ⟨b, off, hA2, hb2, _⟩ := HC.out.open_ (by omega)
            rw [ha] at hA2
            cases hA2
            simp only
            omega
          have hrec := hRight1_any X A B n c i d w.heap.size (gst + 1) (gst + 1 + 1) gst r l (HC.out.below HbX.out) Hshp.out hn hAg HX0.out HXs.out HXk.out (by omega) (by omega) (by omega) hgX (zeros n s + 1) s p wr (by omega) hpn hK.out hrow.out hD.out (fun q hq => absurd hq (hone.out q))
          have Hrec := Lib.hid hrec
          clear hrec hAg
          go_wp2_with fail
          refine Hrec.out.mono ?_
          rintro e w3 (⟨s3, rfl, hK3, hrow3, hD3, h32, h3a, h3b⟩ | ⟨rfl, hK3, hnac⟩)
          · have HK3 := Lib.hid hK3
            have Hrow3 := Lib.hid hrow3
            have HD3 := Lib.hid hD3
            have H32 := Lib.hid h32
            have H3a := Lib.hid h3a
            have H3b := Lib.hid h3b
            clear hK3 hrow3 hD3 h32 h3a h3b
            go_wp2_with fail
            go_roundw
            case rel =>
              refine ⟨p + 1, s3, by omega, by go_num, Lib.hid (hK.out.trans HK3.out), Hrow3, HD3, Lib.hid (fun q hq => hone.out q (H3b.out q hq)), Lib.hid (fun j hj => ?_)⟩
              by_cases e : j = p
              · subst e; exact H32.out
              · have h1 := htwo.out j (by omega)
                rw [H3a.out j (by omega), h1]
            case measure => simp [intOf]; omega
          · have hno : Hid (rightH ⟨l, tr, r⟩ = false) := Lib.hid (by
              rw [hfin.out]
              cases ho : roundB l
              · exact absurd ((roundB_ac Hshp.out).1 ho) hnac
              · rfl)
            have HK3 := Lib.hid hK3
            clear hK3 hnac
            go_wp2_with fail
            go_ret
            exact ⟨ret_bool (hno.out.symm.trans HR.out), HbX.out.trans ((hK.out.trans HK3.out).bel.mono hgw)⟩
        · have hyes : Hid (rightH ⟨l, tr, r⟩ = true) := Lib.hid (by
            rw [hfin.out, (roundB_ac Hshp.out).2 (hD.out.all fun j hj => htwo.out j (by have := Hl.out; omega))]; rfl)
          go_wp2_with fail
          go_ret
          exact ⟨ret_bool (hyes.out.symm.trans HR.out), HbX.out.trans (hK.out.bel.mono hgw)⟩
end Go.Proofs.Ytlndjooddkjnoaa
