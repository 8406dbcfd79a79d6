/- The walk of the document's Right. -/
import Derived.Test.YtlndjooddkjnoaaB0
import Derived.Test.YtlndjooddkjnoaaHA
import Derived.Test.YtlndjooddkjnoaaH9
set_option linter.unusedVariables false
set_option linter.unusedSimpArgs false
namespace Go.Proofs.Ytlndjooddkjnoaa
open Go.RowKit

theorem IsI.take {w : World} {A : Option Addr} {n cap : Nat} {ns : List Int} (h : IsI w A n cap ns) {m : Nat} (hm : m ≤ n) : IsI w A m cap (ns.take m) := by
  have h1 := h.sl.hcap
  have h3 := h.len
  refine ⟨⟨by rw [List.length_map, List.length_take]; omega, by omega, h.sl.hmax, fun hn => ?_⟩, fun c hc => h.wf c (List.mem_of_mem_take hc)⟩
  obtain ⟨b, off, rfl, hb, hc⟩ := h.sl.cells (by omega)
  refine ⟨b, off, rfl, hb, fun j u hu => hc j u ?_⟩
  rw [List.map_take, List.getElem?_take] at hu
  split at hu
  · exact hu
  · cases hu
theorem qBound_any (A B : Option Addr) (n c m d : Nat) (r x : Int) (l : List C) (w : World) (h : IsC w A n c l) (hn : n ≤ 100000) :
    Calls Try.prog 48 #[.agg #[.slice A n c, .slice B m d, .int .i64 r], .int .i64 x] w (RetV w (.bool (bIn l x))) := by
  have hl := h.len
  by_cases hx : 0 ≤ x ∧ x < (n : Int)
  · obtain ⟨p, rfl⟩ : ∃ p : Nat, x = p := ⟨x.toNat, by omega⟩
    refine (qBound_yes A B n c m d r l p w h hn (by omega)).mono fun e w' ⟨h1, h2⟩ => ⟨h1.trans (ret_bool ?_), h2⟩
    unfold bIn
    have : (decide ((0 : Int) ≤ (p : Int)) && decide ((p : Int) < (l.length : Int))) = true := by simp; omega
    rw [this]; simp
  · refine (qBound_no A B n c m d r x w hn (by omega)).mono fun e w' ⟨h1, h2⟩ => ⟨h1.trans (ret_bool ?_), h2⟩
    unfold bIn
    have : (decide ((0 : Int) ≤ x) && decide (x < (l.length : Int))) = false := by simp; omega
    rw [this]; simp

set_option maxRecDepth 100000 in
set_option maxHeartbeats 4000000 in
theorem qRight_any (A B : Option Addr) (n c m d : Nat) (r : Int) (l : List C) (tr : List Int) (w : World) (h : IsC w A n c l) (hT : IsI w B m d tr) (hn : n ≤ 100000) (hm : m ≤ 100000) :
    Calls Try.prog 13 #[.agg #[.slice A n c, .slice B m d, .int .i64 r]] w (RetV w (.bool (rightH ⟨l, tr, r⟩))) := by
  have hl := h.len
  have Hl := Lib.hid hl
  have htl := hT.len
  have Htl := Lib.hid htl
  have HC := Lib.hid h
  have HT := Lib.hid hT
  generalize hR : rightH ⟨l, tr, r⟩ = R
  have HR := Lib.hid hR
  have hb0 : Below w.heap.size w (w.alloc (.cells #[.slice A n c, .slice B m d, .int .i64 r] 25)) := (Below.refl _ _).alloc (Nat.le_refl _) _
  have hx00 : (w.alloc (.cells #[.slice A n c, .slice B m d, .int .i64 r] 25)).heap[w.heap.size]? = some (.cells #[.slice A n c, .slice B m d, .int .i64 r] 25 (0, 0)) := alloc_at rfl
  have Hx00 := Lib.hid hx00
  clear hl htl h hT hR hx00
  by_cases r1 : r < 1
  · have hno : Hid (rightH ⟨l, tr, r⟩ = false) := Lib.hid (by unfold rightH; simp; omega)
    go_enter Try.func13, Try.ntmps13
    go_wp2
    go_ret
    exact ⟨ret_bool (hno.out.symm.trans HR.out), hb0⟩
  have hr1 : 1 ≤ r := by omega
  clear r1
  by_cases r2 : r > 4096
  · have hno : Hid (rightH ⟨l, tr, r⟩ = false) := Lib.hid (by unfold rightH; simp; omega)
    go_enter Try.func13, Try.ntmps13
    go_wp2
    go_ret
    exact ⟨ret_bool (hno.out.symm.trans HR.out), hb0⟩
  have hr2 : r ≤ 4096 := by omega
  clear r2
  by_cases r3 : (n : Int) > r
  · have hno : Hid (rightH ⟨l, tr, r⟩ = false) := Lib.hid (by unfold rightH; simp [Hl.out]; omega)
    go_enter Try.func13, Try.ntmps13
    go_wp2
    go_ret
    exact ⟨ret_bool (hno.out.symm.trans HR.out), hb0⟩
  have hr3 : (n : Int) ≤ r := by omega
  clear r3
  have hroom : Hid (rightH ⟨l, tr, r⟩ = (shpB l && (trOkB l tr && !(roundB l)))) := Lib.hid (by
    unfold rightH
    have : ((decide (1 ≤ r) && decide (r ≤ 4096)) && decide ((l.length : Int) ≤ r)) = true := by simp [Hl.out]; omega
    rw [this, Bool.true_and])
  go_enter Try.func13, Try.ntmps13
  go_wp2
  go_loopw [3] (fun iv wr => ∃ q : Nat, q ≤ n ∧ iv = .int .i64 q ∧ Hid (∀ j, j < q → okSl l j (sAt l j) = true) ∧ Below w.heap.size w wr ∧ wr.heap[w.heap.size]? = some (.cells #[.slice A n c, .slice B m d, .int .i64 r] 25 (0, 0))) (fun iv _ => n - (intOf iv).toNat)
  case atStart => exact ⟨0, Nat.zero_le _, rfl, Lib.hid (fun j hj => by omega), hb0, Hx00.out⟩
  case round =>
    clear hb0
    obtain ⟨q, hq, rfl, hall, hb, hx0⟩ := hrel
    obtain ⟨y0, y1, y2, yl⟩ := open3 hx0
    have Hx0 := Lib.hid hx0
    clear hx0
    by_cases hqn : q < n
    · have hsl := qslot_any A B n c m d r l q wr (HC.out.below hb) hn hqn
      cases ho : okSl l q (sAt l q)
      · rw [ho] at hsl
        have Hsl := Lib.hid hsl
        have hno : Hid (rightH ⟨l, tr, r⟩ = false) := Lib.hid (by rw [hroom.out, shp_no (p := q) (by rw [Hl.out]; exact hqn) ho]; rfl)
        clear hsl ho
        go_wp2_with (first | (go_at_call 47; go_must (refine Hsl.out.mono ?_); rintro e w1 ⟨rfl, hb1⟩))
        go_ret
        exact ⟨ret_bool (hno.out.symm.trans HR.out), hb.trans (hb1.mono hb.size)⟩
      · rw [ho] at hsl
        have Hsl := Lib.hid hsl
        have Ho := Lib.hid ho
        clear hsl ho
        go_wp2_with (first | (go_at_call 47; go_must (refine Hsl.out.mono ?_); rintro e w1 ⟨rfl, hb1⟩))
        go_roundw
        case rel =>
          refine ⟨q + 1, by omega, by go_num, Lib.hid (fun j hj => ?_), hb.trans (hb1.mono hb.size), (hb1.block _ yl).trans Hx0.out⟩
          by_cases e : j = q
          · subst e; exact Ho.out
          · exact hall.out j (by omega)
        case measure => simp [intOf]; omega
    · have hqn2 : q = n := by omega
      subst hqn2
      have hshp := shp_mk (l := l) (fun j hj => hall.out j (by rw [← Hl.out]; exact hj))
      have Hshp := Lib.hid hshp
      clear hshp
      have hb0 := hb
      have hroom2 : Hid (rightH ⟨l, tr, r⟩ = (trOkB l tr && !(roundB l))) := Lib.hid (by rw [hroom.out, Hshp.out]; rfl)
      go_wp2
      go_loopw [4] (fun iv wr => ∃ i : Nat, i ≤ m ∧ iv = .int .i64 i ∧ Hid (∀ j x, j < i → tr[j]? = some x → trOne l tr j x = true) ∧ Below w.heap.size w wr ∧ wr.heap[w.heap.size]? = some (.cells #[.slice A q c, .slice B m d, .int .i64 r] 25 (0, 0))) (fun iv _ => m - (intOf iv).toNat)
      case atStart => exact ⟨0, Nat.zero_le _, rfl, Lib.hid (fun j x hj => by omega), hb0, Hx0.out⟩
      case round =>
        clear hb0 y0 y1 y2 yl Hx0 hb
        obtain ⟨i, hi, rfl, hall2, hb, hx0⟩ := hrel
        obtain ⟨y0, y1, y2, yl⟩ := open3 hx0
        have Hx0 := Lib.hid hx0
        clear hx0
        by_cases him : i < m
        · obtain ⟨x, hxi⟩ := HT.out.get him
          obtain ⟨bt, ot, rfl, hbt, hwx, hct⟩ := HT.out.at_ hxi
          have htc := HT.out.sl.hcap
          have htm := HT.out.sl.hmax
          unfold maxLen at htm
          have hid : i ≤ d := by omega
          have hbo := fun w2 (hb2 : Below w.heap.size w w2) => qBound_any A (some ⟨bt, ot, none⟩) q c m d r x l w2 (HC.out.below hb2) hn
          have hinn := fun w2 (hb2 : Below w.heap.size w w2) => In_any (some ⟨bt, ot, none⟩) i d (tr.take i) x w2 ((HT.out.below hb2).take hi) (by omega)
          have Hxi := Lib.hid hxi
          have hct1 := (hb.cell (p := ⟨bt, ot + i, none⟩) hbt).trans hct
          clear hxi hct
          cases hB : bIn l x
          · rw [hB] at hbo
            have Hbo := Lib.hid hbo
            have hno : Hid (rightH ⟨l, tr, r⟩ = false) := Lib.hid (by rw [hroom2.out, trOkB_no Hxi.out (by simp [trOne, hB])]; rfl)
            clear hbo hinn hB
            go_upto_region 11 with fail
            refine wp_region_held_drew (S := fun w' => w'.cell? ⟨w.heap.size, 0, none⟩ = some (.slice A q c) ∧ w'.cell? ⟨w.heap.size, 1, none⟩ = some (.slice (some ⟨bt, ot, none⟩) m d) ∧ w'.cell? ⟨w.heap.size, 2, none⟩ = some (.int .i64 r) ∧ w'.cell? ⟨bt, ot + i, none⟩ = some (.int .i64 x)) (by kernel_rfl) ?gs ?gr
            case gs => simp [*]
            case gr =>
              intro hHeld
              refine takeH 0 hHeld ?_
              try simp only [Act.put, List.setIfInBounds_toArray, List.set_cons_zero, List.set_cons_succ]
              refine takeH 1 hHeld ?_
              try simp only [Act.put, List.setIfInBounds_toArray, List.set_cons_zero, List.set_cons_succ]
              refine takeH 2 hHeld ?_
              try simp only [Act.put, List.setIfInBounds_toArray, List.set_cons_zero, List.set_cons_succ]
              refine takeH 3 hHeld ?_
              try simp only [Act.put, List.setIfInBounds_toArray, List.set_cons_zero, List.set_cons_succ]
              refine takeH 4 hHeld ?_
              try simp only [Act.put, List.setIfInBounds_toArray, List.set_cons_zero, List.set_cons_succ]
              refine takeH 5 hHeld ?_
              try simp only [Act.put, List.setIfInBounds_toArray, List.set_cons_zero, List.set_cons_succ]
              refine held_one (i := 6) (o := ?oi6u7) (by kernel_rfl) ?hi6u7 (fun K hK => ?rest6u7)
              case hi6u7 => (simp only [List.getElem?_toArray, List.getElem?_cons_succ, List.getElem?_cons_zero]; exact rfl)
              go_simp
              go_at_call 48
              refine (Hbo.out _ hb.drew).mono ?_
              rintro e w5 ⟨rfl, hb5⟩
              have hbw5 := hb.drew.trans (hb5.mono hb.size)
              have hx5 := (hb5.block w.heap.size yl).trans Hx0.out
              obtain ⟨v0, v1, v2, vl⟩ := open3 hx5
              have hcl5 := (hb5.cell (p := ⟨bt, ot + i, none⟩) (Nat.lt_of_lt_of_le hbt hb.size)).trans hct1
              have Hb5 := Lib.hid hb5
              have Hx5 := Lib.hid hx5
              have Hbw5 := Lib.hid hbw5
              clear hb5 hx5 hbw5
              try go_simp
              have hHeld8 : (fun w' : World => w'.cell? ⟨w.heap.size, 0, none⟩ = some (.slice A q c) ∧ w'.cell? ⟨w.heap.size, 1, none⟩ = some (.slice (some ⟨bt, ot, none⟩) m d) ∧ w'.cell? ⟨w.heap.size, 2, none⟩ = some (.int .i64 r) ∧ w'.cell? ⟨bt, ot + i, none⟩ = some (.int .i64 x)) w5 := ⟨v0, v1, v2, hcl5⟩
              refine hK _ _ hHeld8 ?_
              clear hK K hHeld
              have hHeld := hHeld8
              clear hHeld8
              try simp only [Act.put, List.setIfInBounds_toArray, List.set_cons_zero, List.set_cons_succ]
              refine takeH 7 hHeld ?_
              try simp only [Act.put, List.setIfInBounds_toArray, List.set_cons_zero, List.set_cons_succ]
              refine takeH 8 hHeld ?_
              try simp only [Act.put, List.setIfInBounds_toArray, List.set_cons_zero, List.set_cons_succ]
              refine skipH 9 hHeld ?_
              try simp only [Act.put, List.setIfInBounds_toArray, List.set_cons_zero, List.set_cons_succ]
              refine skipH 10 hHeld ?_
              try simp only [Act.put, List.setIfInBounds_toArray, List.set_cons_zero, List.set_cons_succ]
              refine skipH 11 hHeld ?_
              try simp only [Act.put, List.setIfInBounds_toArray, List.set_cons_zero, List.set_cons_succ]
              refine skipH 12 hHeld ?_
              try simp only [Act.put, List.setIfInBounds_toArray, List.set_cons_zero, List.set_cons_succ]
              refine skipH 13 hHeld ?_
              try simp only [Act.put, List.setIfInBounds_toArray, List.set_cons_zero, List.set_cons_succ]
              refine skipH 14 hHeld ?_
              try simp only [Act.put, List.setIfInBounds_toArray, List.set_cons_zero, List.set_cons_succ]
              refine skipH 15 hHeld ?_
              try simp only [Act.put, List.setIfInBounds_toArray, List.set_cons_zero, List.set_cons_succ]
              refine skipH 16 hHeld ?_
              try simp only [Act.put, List.setIfInBounds_toArray, List.set_cons_zero, List.set_cons_succ]
              refine skipH 17 hHeld ?_
              try simp only [Act.put, List.setIfInBounds_toArray, List.set_cons_zero, List.set_cons_succ]
              refine skipH 18 hHeld ?_
              try simp only [Act.put, List.setIfInBounds_toArray, List.set_cons_zero, List.set_cons_succ]
              refine takeH 19 hHeld ?_
              try simp only [Act.put, List.setIfInBounds_toArray, List.set_cons_zero, List.set_cons_succ]
              refine wpAnyH_done (by kernel_rfl) ?_ _
              go_wp2
              go_ret
              exact ⟨ret_bool (hno.out.symm.trans HR.out), Hbw5.out⟩
          · rw [hB] at hbo
            have Hbo := Lib.hid hbo
            have HB := Lib.hid hB
            clear hbo hB
            cases hI : inI (tr.take i) x
            · rw [hI] at hinn
              have Hinn := Lib.hid hinn
              have HI := Lib.hid hI
              clear hinn hI
              go_upto_region 11 with fail
              refine wp_region_held_drew (S := fun w' => w'.cell? ⟨w.heap.size, 0, none⟩ = some (.slice A q c) ∧ w'.cell? ⟨w.heap.size, 1, none⟩ = some (.slice (some ⟨bt, ot, none⟩) m d) ∧ w'.cell? ⟨w.heap.size, 2, none⟩ = some (.int .i64 r) ∧ w'.cell? ⟨bt, ot + i, none⟩ = some (.int .i64 x)) (by kernel_rfl) ?gs ?gr
              case gs => simp [*]
              case gr =>
                intro hHeld
                refine takeH 0 hHeld ?_
                try simp only [Act.put, List.setIfInBounds_toArray, List.set_cons_zero, List.set_cons_succ]
                refine takeH 1 hHeld ?_
                try simp only [Act.put, List.setIfInBounds_toArray, List.set_cons_zero, List.set_cons_succ]
                refine takeH 2 hHeld ?_
                try simp only [Act.put, List.setIfInBounds_toArray, List.set_cons_zero, List.set_cons_succ]
                refine takeH 3 hHeld ?_
                try simp only [Act.put, List.setIfInBounds_toArray, List.set_cons_zero, List.set_cons_succ]
                refine takeH 4 hHeld ?_
                try simp only [Act.put, List.setIfInBounds_toArray, List.set_cons_zero, List.set_cons_succ]
                refine takeH 5 hHeld ?_
                try simp only [Act.put, List.setIfInBounds_toArray, List.set_cons_zero, List.set_cons_succ]
                refine held_one (i := 6) (o := ?oi6u27) (by kernel_rfl) ?hi6u27 (fun K hK => ?rest6u27)
                case hi6u27 => (simp only [List.getElem?_toArray, List.getElem?_cons_succ, List.getElem?_cons_zero]; exact rfl)
                go_simp
                go_at_call 48
                refine (Hbo.out _ hb.drew).mono ?_
                rintro e w5 ⟨rfl, hb5⟩
                have hbw5 := hb.drew.trans (hb5.mono hb.size)
                have hx5 := (hb5.block w.heap.size yl).trans Hx0.out
                obtain ⟨v0, v1, v2, vl⟩ := open3 hx5
                have hcl5 := (hb5.cell (p := ⟨bt, ot + i, none⟩) (Nat.lt_of_lt_of_le hbt hb.size)).trans hct1
                have Hb5 := Lib.hid hb5
                have Hx5 := Lib.hid hx5
                have Hbw5 := Lib.hid hbw5
                clear hb5 hx5 hbw5
                try go_simp
                have hHeld8 : (fun w' : World => w'.cell? ⟨w.heap.size, 0, none⟩ = some (.slice A q c) ∧ w'.cell? ⟨w.heap.size, 1, none⟩ = some (.slice (some ⟨bt, ot, none⟩) m d) ∧ w'.cell? ⟨w.heap.size, 2, none⟩ = some (.int .i64 r) ∧ w'.cell? ⟨bt, ot + i, none⟩ = some (.int .i64 x)) w5 := ⟨v0, v1, v2, hcl5⟩
                refine hK _ _ hHeld8 ?_
                clear hK K hHeld
                have hHeld := hHeld8
                clear hHeld8
                try simp only [Act.put, List.setIfInBounds_toArray, List.set_cons_zero, List.set_cons_succ]
                refine takeH 7 hHeld ?_
                try simp only [Act.put, List.setIfInBounds_toArray, List.set_cons_zero, List.set_cons_succ]
                refine takeH 8 hHeld ?_
                try simp only [Act.put, List.setIfInBounds_toArray, List.set_cons_zero, List.set_cons_succ]
                refine takeH 9 hHeld ?_
                try simp only [Act.put, List.setIfInBounds_toArray, List.set_cons_zero, List.set_cons_succ]
                refine takeH 10 hHeld ?_
                try simp only [Act.put, List.setIfInBounds_toArray, List.set_cons_zero, List.set_cons_succ]
                refine takeH 11 hHeld ?_
                try simp only [Act.put, List.setIfInBounds_toArray, List.set_cons_zero, List.set_cons_succ]
                refine takeH 12 hHeld ?_
                try simp only [Act.put, List.setIfInBounds_toArray, List.set_cons_zero, List.set_cons_succ]
                refine takeH 13 hHeld ?_
                try simp only [Act.put, List.setIfInBounds_toArray, List.set_cons_zero, List.set_cons_succ]
                refine takeH 14 hHeld ?_
                try simp only [Act.put, List.setIfInBounds_toArray, List.set_cons_zero, List.set_cons_succ]
                refine takeH 15 hHeld ?_
                try simp only [Act.put, List.setIfInBounds_toArray, List.set_cons_zero, List.set_cons_succ]
                refine takeH 16 hHeld ?_
                try simp only [Act.put, List.setIfInBounds_toArray, List.set_cons_zero, List.set_cons_succ]
                refine takeH 17 hHeld ?_
                try simp only [Act.put, List.setIfInBounds_toArray, List.set_cons_zero, List.set_cons_succ]
                refine held_one (i := 18) (o := ?oi18u39) (by kernel_rfl) ?hi18u39 (fun K hK => ?rest18u39)
                case hi18u39 => (simp only [List.getElem?_toArray, List.getElem?_cons_succ, List.getElem?_cons_zero]; exact rfl)
                go_simp
                go_at_call 34
                refine (Hinn.out _ Hbw5.out).mono ?_
                rintro e w6 ⟨rfl, rfl⟩
                try go_simp
                have hHeld8 : (fun w' : World => w'.cell? ⟨w.heap.size, 0, none⟩ = some (.slice A q c) ∧ w'.cell? ⟨w.heap.size, 1, none⟩ = some (.slice (some ⟨bt, ot, none⟩) m d) ∧ w'.cell? ⟨w.heap.size, 2, none⟩ = some (.int .i64 r) ∧ w'.cell? ⟨bt, ot + i, none⟩ = some (.int .i64 x)) w5 := ⟨v0, v1, v2, hcl5⟩
                refine hK _ _ hHeld8 ?_
                clear hK K hHeld
                have hHeld := hHeld8
                clear hHeld8
                try simp only [Act.put, List.setIfInBounds_toArray, List.set_cons_zero, List.set_cons_succ]
                refine takeH 19 hHeld ?_
                try simp only [Act.put, List.setIfInBounds_toArray, List.set_cons_zero, List.set_cons_succ]
                refine wpAnyH_done (by kernel_rfl) ?_ _
                go_wp2
                go_roundw
                case rel =>
                  refine ⟨i + 1, by omega, by go_num, Lib.hid (fun j y hj hy => ?_), Hbw5.out, Hx5.out⟩
                  by_cases e : j = i
                  · subst e
                    rw [Hxi.out] at hy
                    cases hy
                    simp [trOne, HB.out, HI.out]
                  · exact hall2.out j y (by omega) hy
                case measure => simp [intOf]; omega
            · rw [hI] at hinn
              have Hinn := Lib.hid hinn
              have hno : Hid (rightH ⟨l, tr, r⟩ = false) := Lib.hid (by rw [hroom2.out, trOkB_no Hxi.out (by simp [trOne, hI])]; rfl)
              clear hinn hI
              go_upto_region 11 with fail
              refine wp_region_held_drew (S := fun w' => w'.cell? ⟨w.heap.size, 0, none⟩ = some (.slice A q c) ∧ w'.cell? ⟨w.heap.size, 1, none⟩ = some (.slice (some ⟨bt, ot, none⟩) m d) ∧ w'.cell? ⟨w.heap.size, 2, none⟩ = some (.int .i64 r) ∧ w'.cell? ⟨bt, ot + i, none⟩ = some (.int .i64 x)) (by kernel_rfl) ?gs ?gr
              case gs => simp [*]
              case gr =>
                intro hHeld
                refine takeH 0 hHeld ?_
                try simp only [Act.put, List.setIfInBounds_toArray, List.set_cons_zero, List.set_cons_succ]
                refine takeH 1 hHeld ?_
                try simp only [Act.put, List.setIfInBounds_toArray, List.set_cons_zero, List.set_cons_succ]
                refine takeH 2 hHeld ?_
                try simp only [Act.put, List.setIfInBounds_toArray, List.set_cons_zero, List.set_cons_succ]
                refine takeH 3 hHeld ?_
                try simp only [Act.put, List.setIfInBounds_toArray, List.set_cons_zero, List.set_cons_succ]
                refine takeH 4 hHeld ?_
                try simp only [Act.put, List.setIfInBounds_toArray, List.set_cons_zero, List.set_cons_succ]
                refine takeH 5 hHeld ?_
                try simp only [Act.put, List.setIfInBounds_toArray, List.set_cons_zero, List.set_cons_succ]
                refine held_one (i := 6) (o := ?oi6u47) (by kernel_rfl) ?hi6u47 (fun K hK => ?rest6u47)
                case hi6u47 => (simp only [List.getElem?_toArray, List.getElem?_cons_succ, List.getElem?_cons_zero]; exact rfl)
                go_simp
                go_at_call 48
                refine (Hbo.out _ hb.drew).mono ?_
                rintro e w5 ⟨rfl, hb5⟩
                have hbw5 := hb.drew.trans (hb5.mono hb.size)
                have hx5 := (hb5.block w.heap.size yl).trans Hx0.out
                obtain ⟨v0, v1, v2, vl⟩ := open3 hx5
                have hcl5 := (hb5.cell (p := ⟨bt, ot + i, none⟩) (Nat.lt_of_lt_of_le hbt hb.size)).trans hct1
                have Hb5 := Lib.hid hb5
                have Hx5 := Lib.hid hx5
                have Hbw5 := Lib.hid hbw5
                clear hb5 hx5 hbw5
                try go_simp
                have hHeld8 : (fun w' : World => w'.cell? ⟨w.heap.size, 0, none⟩ = some (.slice A q c) ∧ w'.cell? ⟨w.heap.size, 1, none⟩ = some (.slice (some ⟨bt, ot, none⟩) m d) ∧ w'.cell? ⟨w.heap.size, 2, none⟩ = some (.int .i64 r) ∧ w'.cell? ⟨bt, ot + i, none⟩ = some (.int .i64 x)) w5 := ⟨v0, v1, v2, hcl5⟩
                refine hK _ _ hHeld8 ?_
                clear hK K hHeld
                have hHeld := hHeld8
                clear hHeld8
                try simp only [Act.put, List.setIfInBounds_toArray, List.set_cons_zero, List.set_cons_succ]
                refine takeH 7 hHeld ?_
                try simp only [Act.put, List.setIfInBounds_toArray, List.set_cons_zero, List.set_cons_succ]
                refine takeH 8 hHeld ?_
                try simp only [Act.put, List.setIfInBounds_toArray, List.set_cons_zero, List.set_cons_succ]
                refine takeH 9 hHeld ?_
                try simp only [Act.put, List.setIfInBounds_toArray, List.set_cons_zero, List.set_cons_succ]
                refine takeH 10 hHeld ?_
                try simp only [Act.put, List.setIfInBounds_toArray, List.set_cons_zero, List.set_cons_succ]
                refine takeH 11 hHeld ?_
                try simp only [Act.put, List.setIfInBounds_toArray, List.set_cons_zero, List.set_cons_succ]
                refine takeH 12 hHeld ?_
                try simp only [Act.put, List.setIfInBounds_toArray, List.set_cons_zero, List.set_cons_succ]
                refine takeH 13 hHeld ?_
                try simp only [Act.put, List.setIfInBounds_toArray, List.set_cons_zero, List.set_cons_succ]
                refine takeH 14 hHeld ?_
                try simp only [Act.put, List.setIfInBounds_toArray, List.set_cons_zero, List.set_cons_succ]
                refine takeH 15 hHeld ?_
                try simp only [Act.put, List.setIfInBounds_toArray, List.set_cons_zero, List.set_cons_succ]
                refine takeH 16 hHeld ?_
                try simp only [Act.put, List.setIfInBounds_toArray, List.set_cons_zero, List.set_cons_succ]
                refine takeH 17 hHeld ?_
                try simp only [Act.put, List.setIfInBounds_toArray, List.set_cons_zero, List.set_cons_succ]
                refine held_one (i := 18) (o := ?oi18u59) (by kernel_rfl) ?hi18u59 (fun K hK => ?rest18u59)
                case hi18u59 => (simp only [List.getElem?_toArray, List.getElem?_cons_succ, List.getElem?_cons_zero]; exact rfl)
                go_simp
                go_at_call 34
                refine (Hinn.out _ Hbw5.out).mono ?_
                rintro e w6 ⟨rfl, rfl⟩
                try go_simp
                have hHeld8 : (fun w' : World => w'.cell? ⟨w.heap.size, 0, none⟩ = some (.slice A q c) ∧ w'.cell? ⟨w.heap.size, 1, none⟩ = some (.slice (some ⟨bt, ot, none⟩) m d) ∧ w'.cell? ⟨w.heap.size, 2, none⟩ = some (.int .i64 r) ∧ w'.cell? ⟨bt, ot + i, none⟩ = some (.int .i64 x)) w5 := ⟨v0, v1, v2, hcl5⟩
                refine hK _ _ hHeld8 ?_
                clear hK K hHeld
                have hHeld := hHeld8
                clear hHeld8
                try simp only [Act.put, List.setIfInBounds_toArray, List.set_cons_zero, List.set_cons_succ]
                refine takeH 19 hHeld ?_
                try simp only [Act.put, List.setIfInBounds_toArray, List.set_cons_zero, List.set_cons_succ]
                refine wpAnyH_done (by kernel_rfl) ?_ _
                go_wp2
                go_ret
                exact ⟨ret_bool (hno.out.symm.trans HR.out), Hbw5.out⟩
        · have hin2 : i = m := by omega
          subst hin2
          have htr := trOkB_mk (l := l) (tr := tr) (fun j x hx => hall2.out j x (by have := (List.getElem?_eq_some_iff.1 hx).1; have := Htl.out; omega) hx)
          have hro := qround_any A B q c i d r l wr (HC.out.below hb) Hshp.out hn
          cases ho : roundB l
          all_goals
            rw [ho] at hro
            have Hro := Lib.hid hro
            have hfin : Hid (rightH ⟨l, tr, r⟩ = !(roundB l)) := Lib.hid (by rw [hroom2.out, htr]; rfl)
            rw [ho] at hfin
            clear htr hro ho
            go_wp2_with (first | (go_at_call 49; go_must (refine Hro.out.mono ?_); rintro e w1 ⟨rfl, hb1⟩))
            go_ret
            exact ⟨ret_bool (hfin.out.symm.trans HR.out), hb.trans (hb1.mono hb.size)⟩
end Go.Proofs.Ytlndjooddkjnoaa
