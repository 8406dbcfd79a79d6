/- The walk of the document's Right. -/
import Derived.Test.YtlndjooddkjnoaaB0
import Derived.Test.YtlndjooddkjnoaaHA
import Derived.Test.YtlndjooddkjnoaaH9
set_option linter.unusedVariables false
set_option linter.unusedSimpArgs false
namespace Go.Proofs.Ytlndjooddkjnoaa
open Go.RowKit

theorem IsI.take {w : World} {A : Option Addr} {n cap : Nat} {ns : List Int} (h : IsI w A n cap ns) {m : Nat} (hm : m ≤ n) : IsI w A m cap (ns.take m) := by
  have h1 := h.sl.hcap
  have h3 := h.len
  refine ⟨⟨by rw [List.length_map, List.length_take]; omega, by omega, h.sl.hmax, fun hn => ?_⟩, fun c hc => h.wf c (List.mem_of_mem_take hc)⟩
  obtain ⟨b, off, rfl, hb, hc⟩ := h.sl.cells (by omega)
  refine ⟨b, off, rfl, hb, fun j u hu => hc j u ?_⟩
  rw [List.map_take, List.getElem?_take] at hu
  split at hu
  · exact hu
  · cases hu
theorem qBound_any (A B : Option Addr) (n c m d : Nat) (r x : Int) (l : List C) (w : World) (h : IsC w A n c l) (hn : n ≤ 100000) :
    Calls Try.prog 48 #[.agg #[.slice A n c, .slice B m d, .int .i64 r], .int .i64 x] w (RetV w (.bool (bIn l x))) := by
  have hl := h.len
  by_cases hx : 0 ≤ x ∧ x < (n : Int)
  · obtain ⟨p, rfl⟩ : ∃ p : Nat, x = p := ⟨x.toNat, by omega⟩
    refine (qBound_yes A B n c m d r l p w h hn (by omega)).mono fun e w' ⟨h1, h2⟩ => ⟨h1.trans (ret_bool ?_), h2⟩
    unfold bIn
    have : (decide ((0 : Int) ≤ (p : Int)) && decide ((p : Int) < (l.length : Int))) = true := by simp; omega
    rw [this]; simp
  · refine (qBound_no A B n c m d r x w hn (by omega)).mono fun e w' ⟨h1, h2⟩ => ⟨h1.trans (ret_bool ?_), h2⟩
    unfold bIn
    have : (decide ((0 : Int) ≤ x) && decide (x < (l.length : Int))) = false := by simp; omega
    rw [this]; simp

set_option maxRecDepth 100000 in
set_option maxHeartbeats 4000000 in
theorem qRight_any (A B : Option Addr) (n c m d : Nat) (r : Int) (l : List C) (tr : List Int) (w : World) (h : IsC w A n c l) (hT : IsI w B m d tr) (hn : n ≤ 100000) (hm : m ≤ 100000) :
    Calls Try.prog 13 #[.agg #[.slice A n c, .slice B m d, .int .i64 r]] w (RetV w (.bool (rightH ⟨l, tr, r⟩))) := by
  have hl := h.len
  have Hl := Lib.hid hl
  have htl := hT.len
  have Htl := Lib.hid htl
  have HC := Lib.hid h
  have HT := Lib.hid hT
  generalize hR : rightH ⟨l, tr, r⟩ = R
  have HR := Lib.hid hR
  have hb0 : Below w.heap.size w (w.alloc (.cells #[.slice A n c, .slice B m d, .int .i64 r] 25)) := (Below.refl _ _).alloc (Nat.le_refl _) _
  have hx00 : (w.alloc (.cells #[.slice A n c, .slice B m d, .int .i64 r] 25)).heap[w.heap.size]? = some (.cells #[.slice A n c, .slice B m d, .int .i64 r] 25 (0, 0)) := alloc_at rfl
  have Hx00 := Lib.hid hx00
  clear hl htl h hT hR hx00
  by_cases r1 : r < 1
  · have hno : Hid (rightH ⟨l, tr, r⟩ = false) := Lib.hid (by unfold rightH; simp; omega)
    go_enter Try.func13, Try.ntmps13
    go_wp2
    go_ret
    exact ⟨ret_bool (hno.out.symm.trans HR.out), hb0⟩
  have hr1 : 1 ≤ r := by omega
  clear r1
  by_cases r2 : r > 4096
  · have hno : Hid (rightH ⟨l, tr, r⟩ = false) := Lib.hid (by unfold rightH; simp; omega)
    go_enter Try.func13, Try.ntmps13
    go_wp2
    go_ret
    exact ⟨ret_bool (hno.out.symm.trans HR.out), hb0⟩
  have hr2 : r ≤ 4096 := by omega
  clear r2
  by_cases r3 : (n : Int) > r
  · have hno : Hid (rightH ⟨l, tr, r⟩ = false) := Lib.hid (by unfold rightH; simp [Hl.out]; omega)
    go_enter Try.func13, Try.ntmps13
    go_wp2
    go_ret
    exact ⟨ret_bool (hno.out.symm.trans HR.out), hb0⟩
  have hr3 : (n : Int) ≤ r := by omega
  clear r3
  have hroom : Hid (rightH ⟨l, tr, r⟩ = (shpB l && (trOkB l tr && !(roundB l)))) := Lib.hid (by
    unfold rightH
    have : ((decide (1 ≤ r) && decide (r ≤ 4096)) && decide ((l.length : Int) ≤ r)) = true := by simp [Hl.out]; omega
    rw [this, Bool.true_and])
  go_enter Try.func13, Try.ntmps13
  go_wp2
  go_loopw [3] (fun iv wr => ∃ q : Nat, q ≤ n ∧ iv = .int .i64 q ∧ Hid (∀ j, j < q → okSl l j (sAt l j) = true) ∧ Below w.heap.size w wr ∧ wr.heap[w.heap.size]? = some (.cells #[.slice A n c, .slice B m d, .int .i64 r] 25 (0, 0))) (fun iv _ => n - (intOf iv).toNat)
  case atStart => exact ⟨0, Nat.zero_le _, rfl, Lib.hid (fun j hj => by omega), hb0, Hx00.out⟩
  case round =>
    clear hb0
    obtain ⟨q, hq, rfl, hall, hb, hx0⟩ := hrel
    obtain ⟨y0, y1, y2, yl⟩ := open3 hx0
    have Hx0 := Lib.hid hx0
    clear hx0
    by_cases hqn : q < n
    · have hsl := qslot_any A B n c m d r l q wr (HC.out.below hb) hn hqn
      cases ho : okSl l q (sAt l q)
      · rw [ho] at hsl
        have Hsl := Lib.hid hsl
        have hno : Hid (rightH ⟨l, tr, r⟩ = false) := Lib.hid (by rw [hroom.out, shp_no (p := q) (by rw [Hl.out]; exact hqn) ho]; rfl)
        clear hsl ho
        go_wp2_with (first | (go_at_call 47; go_must (refine Hsl.out.mono ?_); rintro e w1 ⟨rfl, hb1⟩))
        go_ret
        exact ⟨ret_bool (hno.out.symm.trans HR.out), hb.trans (hb1.mono hb.size)⟩
      · rw [ho] at hsl
        have Hsl := Lib.hid hsl
        have Ho := Lib.hid ho
        clear hsl ho
        go_wp2_with (first | (go_at_call 47; go_must (refine Hsl.out.mono ?_); rintro e w1 ⟨rfl, hb1⟩))
        go_roundw
        case rel =>
          refine ⟨q + 1, by omega, by go_num, Lib.hid (fun j hj => ?_), hb.trans (hb1.mono hb.size), (hb1.block _ yl).trans Hx0.out⟩
          by_cases e : j = q
          · subst e; exact Ho.out
          · exact hall.out j (by omega)
        case measure => simp [intOf]; omega
    · have hqn2 : q = n := by omega
      subst hqn2
      have hshp := shp_mk (l := l) (fun j hj => hall.out j (by rw [← Hl.out]; exact hj))
      have Hshp := Lib.hid hshp
      clear hshp
      have hb0 := hb
      have hroom2 : Hid (rightH ⟨l, tr, r⟩ = (trOkB l tr && !(roundB l))) := Lib.hid (by rw [hroom.out, Hshp.out]; rfl)
      go_wp2
      go_loopw [4] (fun iv wr => ∃ i : Nat, i ≤ m ∧ iv = .int .i64 i ∧ Hid (∀ j x, j < i → tr[j]? = some x → trOne l tr j x = true) ∧ Below w.heap.size w wr ∧ wr.heap[w.heap.size]? = some (.cells #[.slice A q c, .slice B m d, .int .i64 r] 25 (0, 0))) (fun iv _ => m - (intOf iv).toNat)
      case atStart => exact ⟨0, Nat.zero_le _, rfl, Lib.hid (fun j x hj => by omega), hb0, Hx0.out⟩
      case round =>
        clear hb0 y0 y1 y2 yl Hx0 hb
        obtain ⟨i, hi, rfl, hall2, hb, hx0⟩ := hrel
        obtain ⟨y0, y1, y2, yl⟩ := open3 hx0
        have Hx0 := Lib.hid hx0
        clear hx0
        by_cases him : i < m
        · obtain ⟨x, hxi⟩ := HT.out.get him
          obtain ⟨bt, ot, rfl, hbt, hwx, hct⟩ := HT.out.at_ hxi
          have htc := HT.out.sl.hcap
          have htm := HT.out.sl.hmax
          unfold maxLen at htm
          have hid : i ≤ d := by omega
          have hbo := fun w2 (hb2 : Below w.heap.size w w2) => qBound_any A (some ⟨bt, ot, none⟩) q c m d r x l w2 (HC.out.below hb2) hn
          have hinn := fun w2 (hb2 : Below w.heap.size w w2) => In_any (some ⟨bt, ot, none⟩) i d (tr.take i) x w2 ((HT.out.below hb2).take hi) (by omega)
          have Hxi := Lib.hid hxi
          have hct1 := (hb.cell (p := ⟨bt, ot + i, none⟩) hbt).trans hct
          clear hxi hct
          cases hB : bIn l x
          · rw [hB] at hbo
            have Hbo := Lib.hid hbo
            have hno : Hid (rightH ⟨l, tr, r⟩ = false) := Lib.hid (by rw [hroom2.out, trOkB_no Hxi.out (by simp [trOne, hB])]; rfl)
            clear hbo hinn hB
            go_upto_region 11 with fail
            refine wp_region_held_drew (S := fun w' => w'.cell? ⟨w.heap.size, 0, none⟩ = some (.slice A q c) ∧ w'.cell? ⟨w.heap.size, 1, none⟩ = some (.slice (some ⟨bt, ot, none⟩) m d) ∧ w'.cell? ⟨w.heap.size, 2, none⟩ = some (.int .i64 r) ∧ w'.cell? ⟨bt, ot + i, none⟩ = some (.int .i64 x)) (by kernel_rfl) ?gs ?gr
            case gs => simp [*]
            case gr =>
              intro hHeld
              refine wpAnyH_take (i := 0) (oi := ?oi0u1) (v := ?v0u1) ?hi0u1 (by kernel_rfl) (by kernel_rfl) (by kernel_rfl) ?hQ0u1 (Or.inl ⟨?hw0u1, ?hy0u1⟩) hHeld ?rest0u1
              case hi0u1 => (simp only [List.getElem?_toArray, List.getElem?_cons_succ, List.getElem?_cons_zero]; exact rfl)
              case hQ0u1 => exact fun _ _ _ h => h
              case hw0u1 => rfl
              case hy0u1 => (intro w hSw; (try dsimp only at hSw); go_simp <;> with_reducible rfl)
              try simp only [Act.put, List.setIfInBounds_toArray, List.set_cons_zero, List.set_cons_succ]
              refine wpAnyH_take (i := 1) (oi := ?oi1u2) (v := ?v1u2) ?hi1u2 (by kernel_rfl) (by kernel_rfl) (by kernel_rfl) ?hQ1u2 (Or.inl ⟨?hw1u2, ?hy1u2⟩) hHeld ?rest1u2
              case hi1u2 => (simp only [List.getElem?_toArray, List.getElem?_cons_succ, List.getElem?_cons_zero]; exact rfl)
              case hQ1u2 => exact fun _ _ _ h => h
              case hw1u2 => rfl
              case hy1u2 => (intro w hSw; (try dsimp only at hSw); go_simp <;> with_reducible rfl)
              try simp only [Act.put, List.setIfInBounds_toArray, List.set_cons_zero, List.set_cons_succ]
              refine wpAnyH_take (i := 2) (oi := ?oi2u3) (v := ?v2u3) ?hi2u3 (by kernel_rfl) (by kernel_rfl) (by kernel_rfl) ?hQ2u3 (Or.inl ⟨?hw2u3, ?hy2u3⟩) hHeld ?rest2u3
              case hi2u3 => (simp only [List.getElem?_toArray, List.getElem?_cons_succ, List.getElem?_cons_zero]; exact rfl)
              case hQ2u3 => exact fun _ _ _ h => h
              case hw2u3 => rfl
              case hy2u3 => (intro w hSw; (try dsimp only at hSw); go_simp <;> with_reducible rfl)
              try simp only [Act.put, List.setIfInBounds_toArray, List.set_cons_zero, List.set_cons_succ]
              refine wpAnyH_take (i := 3) (oi := ?oi3u4) (v := ?v3u4) ?hi3u4 (by kernel_rfl) (by kernel_rfl) (by kernel_rfl) ?hQ3u4 (Or.inl ⟨?hw3u4, ?hy3u4⟩) hHeld ?rest3u4
              case hi3u4 => (simp only [List.getElem?_toArray, List.getElem?_cons_succ, List.getElem?_cons_zero]; exact rfl)
              case hQ3u4 => exact fun _ _ _ h => h
              case hw3u4 => rfl
              case hy3u4 => (intro w hSw; (try dsimp only at hSw); go_simp <;> with_reducible rfl)
              try simp only [Act.put, List.setIfInBounds_toArray, List.set_cons_zero, List.set_cons_succ]
              refine wpAnyH_take (i := 4) (oi := ?oi4u5) (v := ?v4u5) ?hi4u5 (by kernel_rfl) (by kernel_rfl) (by kernel_rfl) ?hQ4u5 (Or.inl ⟨?hw4u5, ?hy4u5⟩) hHeld ?rest4u5
              case hi4u5 => (simp only [List.getElem?_toArray, List.getElem?_cons_succ, List.getElem?_cons_zero]; exact rfl)
              case hQ4u5 => exact fun _ _ _ h => h
              case hw4u5 => rfl
              case hy4u5 => (intro w hSw; (try dsimp only at hSw); go_simp <;> with_reducible rfl)
              try simp only [Act.put, List.setIfInBounds_toArray, List.set_cons_zero, List.set_cons_succ]
              refine wpAnyH_take (i := 5) (oi := ?oi5u6) (v := ?v5u6) ?hi5u6 (by kernel_rfl) (by kernel_rfl) (by kernel_rfl) ?hQ5u6 (Or.inl ⟨?hw5u6, ?hy5u6⟩) hHeld ?rest5u6
              case hi5u6 => (simp only [List.getElem?_toArray, List.getElem?_cons_succ, List.getElem?_cons_zero]; exact rfl)
              case hQ5u6 => exact fun _ _ _ h => h
              case hw5u6 => rfl
              case hy5u6 => (intro w hSw; (try dsimp only at hSw); go_simp <;> with_reducible rfl)
              try simp only [Act.put, List.setIfInBounds_toArray, List.set_cons_zero, List.set_cons_succ]
              refine held_one (i := 6) (o := ?oi6u7) (by kernel_rfl) ?hi6u7 (fun K hK => ?rest6u7)
              case hi6u7 => (simp only [List.getElem?_toArray, List.getElem?_cons_succ, List.getElem?_cons_zero]; exact rfl)
              go_simp
              go_at_call 48
              refine (Hbo.out _ hb.drew).mono ?_
              rintro e w5 ⟨rfl, hb5⟩
              have hbw5 := hb.drew.trans (hb5.mono hb.size)
              have hx5 := (hb5.block w.heap.size yl).trans Hx0.out
              obtain ⟨v0, v1, v2, vl⟩ := open3 hx5
              have hcl5 := (hb5.cell (p := ⟨bt, ot + i, none⟩) (Nat.lt_of_lt_of_le hbt hb.size)).trans hct1
              have Hb5 := Lib.hid hb5
              have Hx5 := Lib.hid hx5
              have Hbw5 := Lib.hid hbw5
              clear hb5 hx5 hbw5
              try go_simp
              have hHeld8 : (fun w' : World => w'.cell? ⟨w.heap.size, 0, none⟩ = some (.slice A q c) ∧ w'.cell? ⟨w.heap.size, 1, none⟩ = some (.slice (some ⟨bt, ot, none⟩) m d) ∧ w'.cell? ⟨w.heap.size, 2, none⟩ = some (.int .i64 r) ∧ w'.cell? ⟨bt, ot + i, none⟩ = some (.int .i64 x)) w5 := ⟨v0, v1, v2, hcl5⟩
              refine hK _ _ hHeld8 ?_
              clear hK K hHeld
              have hHeld := hHeld8
              clear hHeld8
              try simp only [Act.put, List.setIfInBounds_toArray, List.set_cons_zero, List.set_cons_succ]
              refine wpAnyH_take (i := 7) (oi := ?oi7u8) (v := ?v7u8) ?hi7u8 (by kernel_rfl) (by kernel_rfl) (by kernel_rfl) ?hQ7u8 (Or.inl ⟨?hw7u8, ?hy7u8⟩) hHeld ?rest7u8
              case hi7u8 => (simp only [List.getElem?_toArray, List.getElem?_cons_succ, List.getElem?_cons_zero]; exact rfl)
              case hQ7u8 => exact fun _ _ _ h => h
              case hw7u8 => rfl
              case hy7u8 => (intro w hSw; (try dsimp only at hSw); go_simp <;> with_reducible rfl)
              try simp only [Act.put, List.setIfInBounds_toArray, List.set_cons_zero, List.set_cons_succ]
              refine wpAnyH_take (i := 8) (oi := ?oi8u9) (v := ?v8u9) ?hi8u9 (by kernel_rfl) (by kernel_rfl) (by kernel_rfl) ?hQ8u9 (Or.inl ⟨?hw8u9, ?hy8u9⟩) hHeld ?rest8u9
              case hi8u9 => (simp only [List.getElem?_toArray, List.getElem?_cons_succ, List.getElem?_cons_zero]; exact rfl)
              case hQ8u9 => exact fun _ _ _ h => h
              case hw8u9 => rfl
              case hy8u9 => (intro w hSw; (try dsimp only at hSw); go_simp <;> with_reducible rfl)
              try simp only [Act.put, List.setIfInBounds_toArray, List.set_cons_zero, List.set_cons_succ]
              refine wpAnyH_take (i := 9) (oi := ?oi9u10) (v := undef) ?hi9u10 (by kernel_rfl) (by kernel_rfl) (by kernel_rfl) ?hQ9u10 (Or.inr ⟨?hw9u10, rfl⟩) hHeld ?rest9u10
              case hi9u10 => (simp only [List.getElem?_toArray, List.getElem?_cons_succ, List.getElem?_cons_zero]; exact rfl)
              case hQ9u10 => exact fun _ _ _ h => h
              case hw9u10 => rfl
              try simp only [Act.put, List.setIfInBounds_toArray, List.set_cons_zero, List.set_cons_succ]
              refine wpAnyH_take (i := 10) (oi := ?oi10u11) (v := undef) ?hi10u11 (by kernel_rfl) (by kernel_rfl) (by kernel_rfl) ?hQ10u11 (Or.inr ⟨?hw10u11, rfl⟩) hHeld ?rest10u11
              case hi10u11 => (simp only [List.getElem?_toArray, List.getElem?_cons_succ, List.getElem?_cons_zero]; exact rfl)
              case hQ10u11 => exact fun _ _ _ h => h
              case hw10u11 => rfl
              try simp only [Act.put, List.setIfInBounds_toArray, List.set_cons_zero, List.set_cons_succ]
              refine wpAnyH_take (i := 11) (oi := ?oi11u12) (v := undef) ?hi11u12 (by kernel_rfl) (by kernel_rfl) (by kernel_rfl) ?hQ11u12 (Or.inr ⟨?hw11u12, rfl⟩) hHeld ?rest11u12
              case hi11u12 => (simp only [List.getElem?_toArray, List.getElem?_cons_succ, List.getElem?_cons_zero]; exact rfl)
              case hQ11u12 => exact fun _ _ _ h => h
              case hw11u12 => rfl
              try simp only [Act.put, List.setIfInBounds_toArray, List.set_cons_zero, List.set_cons_succ]
              refine wpAnyH_take (i := 12) (oi := ?oi12u13) (v := undef) ?hi12u13 (by kernel_rfl) (by kernel_rfl) (by kernel_rfl) ?hQ12u13 (Or.inr ⟨?hw12u13, rfl⟩) hHeld ?rest12u13
              case hi12u13 => (simp only [List.getElem?_toArray, List.getElem?_cons_succ, List.getElem?_cons_zero]; exact rfl)
              case hQ12u13 => exact fun _ _ _ h => h
              case hw12u13 => rfl
              try simp only [Act.put, List.setIfInBounds_toArray, List.set_cons_zero, List.set_cons_succ]
              refine wpAnyH_take (i := 13) (oi := ?oi13u14) (v := undef) ?hi13u14 (by kernel_rfl) (by kernel_rfl) (by kernel_rfl) ?hQ13u14 (Or.inr ⟨?hw13u14, rfl⟩) hHeld ?rest13u14
              case hi13u14 => (simp only [List.getElem?_toArray, List.getElem?_cons_succ, List.getElem?_cons_zero]; exact rfl)
              case hQ13u14 => exact fun _ _ _ h => h
              case hw13u14 => rfl
              try simp only [Act.put, List.setIfInBounds_toArray, List.set_cons_zero, List.set_cons_succ]
              refine wpAnyH_take (i := 14) (oi := ?oi14u15) (v := undef) ?hi14u15 (by kernel_rfl) (by kernel_rfl) (by kernel_rfl) ?hQ14u15 (Or.inr ⟨?hw14u15, rfl⟩) hHeld ?rest14u15
              case hi14u15 => (simp only [List.getElem?_toArray, List.getElem?_cons_succ, List.getElem?_cons_zero]; exact rfl)
              case hQ14u15 => exact fun _ _ _ h => h
              case hw14u15 => rfl
              try simp only [Act.put, List.setIfInBounds_toArray, List.set_cons_zero, List.set_cons_succ]
              refine wpAnyH_take (i := 15) (oi := ?oi15u16) (v := undef) ?hi15u16 (by kernel_rfl) (by kernel_rfl) (by kernel_rfl) ?hQ15u16 (Or.inr ⟨?hw15u16, rfl⟩) hHeld ?rest15u16
              case hi15u16 => (simp only [List.getElem?_toArray, List.getElem?_cons_succ, List.getElem?_cons_zero]; exact rfl)
              case hQ15u16 => exact fun _ _ _ h => h
              case hw15u16 => rfl
              try simp only [Act.put, List.setIfInBounds_toArray, List.set_cons_zero, List.set_cons_succ]
              refine wpAnyH_take (i := 16) (oi := ?oi16u17) (v := undef) ?hi16u17 (by kernel_rfl) (by kernel_rfl) (by kernel_rfl) ?hQ16u17 (Or.inr ⟨?hw16u17, rfl⟩) hHeld ?rest16u17
              case hi16u17 => (simp only [List.getElem?_toArray, List.getElem?_cons_succ, List.getElem?_cons_zero]; exact rfl)
              case hQ16u17 => exact fun _ _ _ h => h
              case hw16u17 => rfl
              try simp only [Act.put, List.setIfInBounds_toArray, List.set_cons_zero, List.set_cons_succ]
              refine wpAnyH_take (i := 17) (oi := ?oi17u18) (v := undef) ?hi17u18 (by kernel_rfl) (by kernel_rfl) (by kernel_rfl) ?hQ17u18 (Or.inr ⟨?hw17u18, rfl⟩) hHeld ?rest17u18
              case hi17u18 => (simp only [List.getElem?_toArray, List.getElem?_cons_succ, List.getElem?_cons_zero]; exact rfl)
              case hQ17u18 => exact fun _ _ _ h => h
              case hw17u18 => rfl
              try simp only [Act.put, List.setIfInBounds_toArray, List.set_cons_zero, List.set_cons_succ]
              refine wpAnyH_take (i := 18) (oi := ?oi18u19) (v := undef) ?hi18u19 (by kernel_rfl) (by kernel_rfl) (by kernel_rfl) ?hQ18u19 (Or.inr ⟨?hw18u19, rfl⟩) hHeld ?rest18u19
              case hi18u19 => (simp only [List.getElem?_toArray, List.getElem?_cons_succ, List.getElem?_cons_zero]; exact rfl)
              case hQ18u19 => exact fun _ _ _ h => h
              case hw18u19 => rfl
              try simp only [Act.put, List.setIfInBounds_toArray, List.set_cons_zero, List.set_cons_succ]
              refine wpAnyH_take (i := 19) (oi := ?oi19u20) (v := ?v19u20) ?hi19u20 (by kernel_rfl) (by kernel_rfl) (by kernel_rfl) ?hQ19u20 (Or.inl ⟨?hw19u20, ?hy19u20⟩) hHeld ?rest19u20
              case hi19u20 => (simp only [List.getElem?_toArray, List.getElem?_cons_succ, List.getElem?_cons_zero]; exact rfl)
              case hQ19u20 => exact fun _ _ _ h => h
              case hw19u20 => rfl
              case hy19u20 => (intro w hSw; (try dsimp only at hSw); go_simp <;> with_reducible rfl)
              try simp only [Act.put, List.setIfInBounds_toArray, List.set_cons_zero, List.set_cons_succ]
              refine wpAnyH_done (by kernel_rfl) ?_ _
              go_wp2
              go_ret
              exact ⟨ret_bool (hno.out.symm.trans HR.out), Hbw5.out⟩
          · rw [hB] at hbo
            have Hbo := Lib.hid hbo
            have HB := Lib.hid hB
            clear hbo hB
            cases hI : inI (tr.take i) x
            · rw [hI] at hinn
              have Hinn := Lib.hid hinn
              have HI := Lib.hid hI
              clear hinn hI
              go_upto_region 11 with fail
              refine wp_region_held_drew (S := fun w' => w'.cell? ⟨w.heap.size, 0, none⟩ = some (.slice A q c) ∧ w'.cell? ⟨w.heap.size, 1, none⟩ = some (.slice (some ⟨bt, ot, none⟩) m d) ∧ w'.cell? ⟨w.heap.size, 2, none⟩ = some (.int .i64 r) ∧ w'.cell? ⟨bt, ot + i, none⟩ = some (.int .i64 x)) (by kernel_rfl) ?gs ?gr
              case gs => simp [*]
              case gr =>
                intro hHeld
                refine wpAnyH_take (i := 0) (oi := ?oi0u21) (v := ?v0u21) ?hi0u21 (by kernel_rfl) (by kernel_rfl) (by kernel_rfl) ?hQ0u21 (Or.inl ⟨?hw0u21, ?hy0u21⟩) hHeld ?rest0u21
                case hi0u21 => (simp only [List.getElem?_toArray, List.getElem?_cons_succ, List.getElem?_cons_zero]; exact rfl)
                case hQ0u21 => exact fun _ _ _ h => h
                case hw0u21 => rfl
                case hy0u21 => (intro w hSw; (try dsimp only at hSw); go_simp <;> with_reducible rfl)
                try simp only [Act.put, List.setIfInBounds_toArray, List.set_cons_zero, List.set_cons_succ]
                refine wpAnyH_take (i := 1) (oi := ?oi1u22) (v := ?v1u22) ?hi1u22 (by kernel_rfl) (by kernel_rfl) (by kernel_rfl) ?hQ1u22 (Or.inl ⟨?hw1u22, ?hy1u22⟩) hHeld ?rest1u22
                case hi1u22 => (simp only [List.getElem?_toArray, List.getElem?_cons_succ, List.getElem?_cons_zero]; exact rfl)
                case hQ1u22 => exact fun _ _ _ h => h
                case hw1u22 => rfl
                case hy1u22 => (intro w hSw; (try dsimp only at hSw); go_simp <;> with_reducible rfl)
                try simp only [Act.put, List.setIfInBounds_toArray, List.set_cons_zero, List.set_cons_succ]
                refine wpAnyH_take (i := 2) (oi := ?oi2u23) (v := ?v2u23) ?hi2u23 (by kernel_rfl) (by kernel_rfl) (by kernel_rfl) ?hQ2u23 (Or.inl ⟨?hw2u23, ?hy2u23⟩) hHeld ?rest2u23
                case hi2u23 => (simp only [List.getElem?_toArray, List.getElem?_cons_succ, List.getElem?_cons_zero]; exact rfl)
                case hQ2u23 => exact fun _ _ _ h => h
                case hw2u23 => rfl
                case hy2u23 => (intro w hSw; (try dsimp only at hSw); go_simp <;> with_reducible rfl)
                try simp only [Act.put, List.setIfInBounds_toArray, List.set_cons_zero, List.set_cons_succ]
                refine wpAnyH_take (i := 3) (oi := ?oi3u24) (v := ?v3u24) ?hi3u24 (by kernel_rfl) (by kernel_rfl) (by kernel_rfl) ?hQ3u24 (Or.inl ⟨?hw3u24, ?hy3u24⟩) hHeld ?rest3u24
                case hi3u24 => (simp only [List.getElem?_toArray, List.getElem?_cons_succ, List.getElem?_cons_zero]; exact rfl)
                case hQ3u24 => exact fun _ _ _ h => h
                case hw3u24 => rfl
                case hy3u24 => (intro w hSw; (try dsimp only at hSw); go_simp <;> with_reducible rfl)
                try simp only [Act.put, List.setIfInBounds_toArray, List.set_cons_zero, List.set_cons_succ]
                refine wpAnyH_take (i := 4) (oi := ?oi4u25) (v := ?v4u25) ?hi4u25 (by kernel_rfl) (by kernel_rfl) (by kernel_rfl) ?hQ4u25 (Or.inl ⟨?hw4u25, ?hy4u25⟩) hHeld ?rest4u25
                case hi4u25 => (simp only [List.getElem?_toArray, List.getElem?_cons_succ, List.getElem?_cons_zero]; exact rfl)
                case hQ4u25 => exact fun _ _ _ h => h
                case hw4u25 => rfl
                case hy4u25 => (intro w hSw; (try dsimp only at hSw); go_simp <;> with_reducible rfl)
                try simp only [Act.put, List.setIfInBounds_toArray, List.set_cons_zero, List.set_cons_succ]
                refine wpAnyH_take (i := 5) (oi := ?oi5u26) (v := ?v5u26) ?hi5u26 (by kernel_rfl) (by kernel_rfl) (by kernel_rfl) ?hQ5u26 (Or.inl ⟨?hw5u26, ?hy5u26⟩) hHeld ?rest5u26
                case hi5u26 => (simp only [List.getElem?_toArray, List.getElem?_cons_succ, List.getElem?_cons_zero]; exact rfl)
                case hQ5u26 => exact fun _ _ _ h => h
                case hw5u26 => rfl
                case hy5u26 => (intro w hSw; (try dsimp only at hSw); go_simp <;> with_reducible rfl)
                try simp only [Act.put, List.setIfInBounds_toArray, List.set_cons_zero, List.set_cons_succ]
                refine held_one (i := 6) (o := ?oi6u27) (by kernel_rfl) ?hi6u27 (fun K hK => ?rest6u27)
                case hi6u27 => (simp only [List.getElem?_toArray, List.getElem?_cons_succ, List.getElem?_cons_zero]; exact rfl)
                go_simp
                go_at_call 48
                refine (Hbo.out _ hb.drew).mono ?_
                rintro e w5 ⟨rfl, hb5⟩
                have hbw5 := hb.drew.trans (hb5.mono hb.size)
                have hx5 := (hb5.block w.heap.size yl).trans Hx0.out
                obtain ⟨v0, v1, v2, vl⟩ := open3 hx5
                have hcl5 := (hb5.cell (p := ⟨bt, ot + i, none⟩) (Nat.lt_of_lt_of_le hbt hb.size)).trans hct1
                have Hb5 := Lib.hid hb5
                have Hx5 := Lib.hid hx5
                have Hbw5 := Lib.hid hbw5
                clear hb5 hx5 hbw5
                try go_simp
                have hHeld8 : (fun w' : World => w'.cell? ⟨w.heap.size, 0, none⟩ = some (.slice A q c) ∧ w'.cell? ⟨w.heap.size, 1, none⟩ = some (.slice (some ⟨bt, ot, none⟩) m d) ∧ w'.cell? ⟨w.heap.size, 2, none⟩ = some (.int .i64 r) ∧ w'.cell? ⟨bt, ot + i, none⟩ = some (.int .i64 x)) w5 := ⟨v0, v1, v2, hcl5⟩
                refine hK _ _ hHeld8 ?_
                clear hK K hHeld
                have hHeld := hHeld8
                clear hHeld8
                try simp only [Act.put, List.setIfInBounds_toArray, List.set_cons_zero, List.set_cons_succ]
                refine wpAnyH_take (i := 7) (oi := ?oi7u28) (v := ?v7u28) ?hi7u28 (by kernel_rfl) (by kernel_rfl) (by kernel_rfl) ?hQ7u28 (Or.inl ⟨?hw7u28, ?hy7u28⟩) hHeld ?rest7u28
                case hi7u28 => (simp only [List.getElem?_toArray, List.getElem?_cons_succ, List.getElem?_cons_zero]; exact rfl)
                case hQ7u28 => exact fun _ _ _ h => h
                case hw7u28 => rfl
                case hy7u28 => (intro w hSw; (try dsimp only at hSw); go_simp <;> with_reducible rfl)
                try simp only [Act.put, List.setIfInBounds_toArray, List.set_cons_zero, List.set_cons_succ]
                refine wpAnyH_take (i := 8) (oi := ?oi8u29) (v := ?v8u29) ?hi8u29 (by kernel_rfl) (by kernel_rfl) (by kernel_rfl) ?hQ8u29 (Or.inl ⟨?hw8u29, ?hy8u29⟩) hHeld ?rest8u29
                case hi8u29 => (simp only [List.getElem?_toArray, List.getElem?_cons_succ, List.getElem?_cons_zero]; exact rfl)
                case hQ8u29 => exact fun _ _ _ h => h
                case hw8u29 => rfl
                case hy8u29 => (intro w hSw; (try dsimp only at hSw); go_simp <;> with_reducible rfl)
                try simp only [Act.put, List.setIfInBounds_toArray, List.set_cons_zero, List.set_cons_succ]
                refine wpAnyH_take (i := 9) (oi := ?oi9u30) (v := ?v9u30) ?hi9u30 (by kernel_rfl) (by kernel_rfl) (by kernel_rfl) ?hQ9u30 (Or.inl ⟨?hw9u30, ?hy9u30⟩) hHeld ?rest9u30
                case hi9u30 => (simp only [List.getElem?_toArray, List.getElem?_cons_succ, List.getElem?_cons_zero]; exact rfl)
                case hQ9u30 => exact fun _ _ _ h => h
                case hw9u30 => rfl
                case hy9u30 => (intro w hSw; (try dsimp only at hSw); go_simp <;> with_reducible rfl)
                try simp only [Act.put, List.setIfInBounds_toArray, List.set_cons_zero, List.set_cons_succ]
                refine wpAnyH_take (i := 10) (oi := ?oi10u31) (v := ?v10u31) ?hi10u31 (by kernel_rfl) (by kernel_rfl) (by kernel_rfl) ?hQ10u31 (Or.inl ⟨?hw10u31, ?hy10u31⟩) hHeld ?rest10u31
                case hi10u31 => (simp only [List.getElem?_toArray, List.getElem?_cons_succ, List.getElem?_cons_zero]; exact rfl)
                case hQ10u31 => exact fun _ _ _ h => h
                case hw10u31 => rfl
                case hy10u31 => (intro w hSw; (try dsimp only at hSw); go_simp <;> with_reducible rfl)
                try simp only [Act.put, List.setIfInBounds_toArray, List.set_cons_zero, List.set_cons_succ]
                refine wpAnyH_take (i := 11) (oi := ?oi11u32) (v := ?v11u32) ?hi11u32 (by kernel_rfl) (by kernel_rfl) (by kernel_rfl) ?hQ11u32 (Or.inl ⟨?hw11u32, ?hy11u32⟩) hHeld ?rest11u32
                case hi11u32 => (simp only [List.getElem?_toArray, List.getElem?_cons_succ, List.getElem?_cons_zero]; exact rfl)
                case hQ11u32 => exact fun _ _ _ h => h
                case hw11u32 => rfl
                case hy11u32 => (intro w hSw; (try dsimp only at hSw); go_simp <;> with_reducible rfl)
                try simp only [Act.put, List.setIfInBounds_toArray, List.set_cons_zero, List.set_cons_succ]
                refine wpAnyH_take (i := 12) (oi := ?oi12u33) (v := ?v12u33) ?hi12u33 (by kernel_rfl) (by kernel_rfl) (by kernel_rfl) ?hQ12u33 (Or.inl ⟨?hw12u33, ?hy12u33⟩) hHeld ?rest12u33
                case hi12u33 => (simp only [List.getElem?_toArray, List.getElem?_cons_succ, List.getElem?_cons_zero]; exact rfl)
                case hQ12u33 => exact fun _ _ _ h => h
                case hw12u33 => rfl
                case hy12u33 => (intro w hSw; (try dsimp only at hSw); go_simp <;> with_reducible rfl)
                try simp only [Act.put, List.setIfInBounds_toArray, List.set_cons_zero, List.set_cons_succ]
                refine wpAnyH_take (i := 13) (oi := ?oi13u34) (v := ?v13u34) ?hi13u34 (by kernel_rfl) (by kernel_rfl) (by kernel_rfl) ?hQ13u34 (Or.inl ⟨?hw13u34, ?hy13u34⟩) hHeld ?rest13u34
                case hi13u34 => (simp only [List.getElem?_toArray, List.getElem?_cons_succ, List.getElem?_cons_zero]; exact rfl)
                case hQ13u34 => exact fun _ _ _ h => h
                case hw13u34 => rfl
                case hy13u34 => (intro w hSw; (try dsimp only at hSw); go_simp <;> with_reducible rfl)
                try simp only [Act.put, List.setIfInBounds_toArray, List.set_cons_zero, List.set_cons_succ]
                refine wpAnyH_take (i := 14) (oi := ?oi14u35) (v := ?v14u35) ?hi14u35 (by kernel_rfl) (by kernel_rfl) (by kernel_rfl) ?hQ14u35 (Or.inl ⟨?hw14u35, ?hy14u35⟩) hHeld ?rest14u35
                case hi14u35 => (simp only [List.getElem?_toArray, List.getElem?_cons_succ, List.getElem?_cons_zero]; exact rfl)
                case hQ14u35 => exact fun _ _ _ h => h
                case hw14u35 => rfl
                case hy14u35 => (intro w hSw; (try dsimp only at hSw); go_simp <;> with_reducible rfl)
                try simp only [Act.put, List.setIfInBounds_toArray, List.set_cons_zero, List.set_cons_succ]
                refine wpAnyH_take (i := 15) (oi := ?oi15u36) (v := ?v15u36) ?hi15u36 (by kernel_rfl) (by kernel_rfl) (by kernel_rfl) ?hQ15u36 (Or.inl ⟨?hw15u36, ?hy15u36⟩) hHeld ?rest15u36
                case hi15u36 => (simp only [List.getElem?_toArray, List.getElem?_cons_succ, List.getElem?_cons_zero]; exact rfl)
                case hQ15u36 => exact fun _ _ _ h => h
                case hw15u36 => rfl
                case hy15u36 => (intro w hSw; (try dsimp only at hSw); go_simp <;> with_reducible rfl)
                try simp only [Act.put, List.setIfInBounds_toArray, List.set_cons_zero, List.set_cons_succ]
                refine wpAnyH_take (i := 16) (oi := ?oi16u37) (v := ?v16u37) ?hi16u37 (by kernel_rfl) (by kernel_rfl) (by kernel_rfl) ?hQ16u37 (Or.inl ⟨?hw16u37, ?hy16u37⟩) hHeld ?rest16u37
                case hi16u37 => (simp only [List.getElem?_toArray, List.getElem?_cons_succ, List.getElem?_cons_zero]; exact rfl)
                case hQ16u37 => exact fun _ _ _ h => h
                case hw16u37 => rfl
                case hy16u37 => (intro w hSw; (try dsimp only at hSw); go_simp <;> with_reducible rfl)
                try simp only [Act.put, List.setIfInBounds_toArray, List.set_cons_zero, List.set_cons_succ]
                refine wpAnyH_take (i := 17) (oi := ?oi17u38) (v := ?v17u38) ?hi17u38 (by kernel_rfl) (by kernel_rfl) (by kernel_rfl) ?hQ17u38 (Or.inl ⟨?hw17u38, ?hy17u38⟩) hHeld ?rest17u38
                case hi17u38 => (simp only [List.getElem?_toArray, List.getElem?_cons_succ, List.getElem?_cons_zero]; exact rfl)
                case hQ17u38 => exact fun _ _ _ h => h
                case hw17u38 => rfl
                case hy17u38 => (intro w hSw; (try dsimp only at hSw); go_simp <;> with_reducible rfl)
                try simp only [Act.put, List.setIfInBounds_toArray, List.set_cons_zero, List.set_cons_succ]
                refine held_one (i := 18) (o := ?oi18u39) (by kernel_rfl) ?hi18u39 (fun K hK => ?rest18u39)
                case hi18u39 => (simp only [List.getElem?_toArray, List.getElem?_cons_succ, List.getElem?_cons_zero]; exact rfl)
                go_simp
                go_at_call 34
                refine (Hinn.out _ Hbw5.out).mono ?_
                rintro e w6 ⟨rfl, rfl⟩
                try go_simp
                have hHeld8 : (fun w' : World => w'.cell? ⟨w.heap.size, 0, none⟩ = some (.slice A q c) ∧ w'.cell? ⟨w.heap.size, 1, none⟩ = some (.slice (some ⟨bt, ot, none⟩) m d) ∧ w'.cell? ⟨w.heap.size, 2, none⟩ = some (.int .i64 r) ∧ w'.cell? ⟨bt, ot + i, none⟩ = some (.int .i64 x)) w5 := ⟨v0, v1, v2, hcl5⟩
                refine hK _ _ hHeld8 ?_
                clear hK K hHeld
                have hHeld := hHeld8
                clear hHeld8
                try simp only [Act.put, List.setIfInBounds_toArray, List.set_cons_zero, List.set_cons_succ]
                refine wpAnyH_take (i := 19) (oi := ?oi19u40) (v := ?v19u40) ?hi19u40 (by kernel_rfl) (by kernel_rfl) (by kernel_rfl) ?hQ19u40 (Or.inl ⟨?hw19u40, ?hy19u40⟩) hHeld ?rest19u40
                case hi19u40 => (simp only [List.getElem?_toArray, List.getElem?_cons_succ, List.getElem?_cons_zero]; exact rfl)
                case hQ19u40 => exact fun _ _ _ h => h
                case hw19u40 => rfl
                case hy19u40 => (intro w hSw; (try dsimp only at hSw); go_simp <;> with_reducible rfl)
                try simp only [Act.put, List.setIfInBounds_toArray, List.set_cons_zero, List.set_cons_succ]
                refine wpAnyH_done (by kernel_rfl) ?_ _
                go_wp2
                go_roundw
                case rel =>
                  refine ⟨i + 1, by omega, by go_num, Lib.hid (fun j y hj hy => ?_), Hbw5.out, Hx5.out⟩
                  by_cases e : j = i
                  · subst e
                    rw [Hxi.out] at hy
                    cases hy
                    simp [trOne, HB.out, HI.out]
                  · exact hall2.out j y (by omega) hy
                case measure => simp [intOf]; omega
            · rw [hI] at hinn
              have Hinn := Lib.hid hinn
              have hno : Hid (rightH ⟨l, tr, r⟩ = false) := Lib.hid (by rw [hroom2.out, trOkB_no Hxi.out (by simp [trOne, hI])]; rfl)
              clear hinn hI
              go_upto_region 11 with fail
              refine wp_region_held_drew (S := fun w' => w'.cell? ⟨w.heap.size, 0, none⟩ = some (.slice A q c) ∧ w'.cell? ⟨w.heap.size, 1, none⟩ = some (.slice (some ⟨bt, ot, none⟩) m d) ∧ w'.cell? ⟨w.heap.size, 2, none⟩ = some (.int .i64 r) ∧ w'.cell? ⟨bt, ot + i, none⟩ = some (.int .i64 x)) (by kernel_rfl) ?gs ?gr
              case gs => simp [*]
              case gr =>
                intro hHeld
                refine wpAnyH_take (i := 0) (oi := ?oi0u41) (v := ?v0u41) ?hi0u41 (by kernel_rfl) (by kernel_rfl) (by kernel_rfl) ?hQ0u41 (Or.inl ⟨?hw0u41, ?hy0u41⟩) hHeld ?rest0u41
                case hi0u41 => (simp only [List.getElem?_toArray, List.getElem?_cons_succ, List.getElem?_cons_zero]; exact rfl)
                case hQ0u41 => exact fun _ _ _ h => h
                case hw0u41 => rfl
                case hy0u41 => (intro w hSw; (try dsimp only at hSw); go_simp <;> with_reducible rfl)
                try simp only [Act.put, List.setIfInBounds_toArray, List.set_cons_zero, List.set_cons_succ]
                refine wpAnyH_take (i := 1) (oi := ?oi1u42) (v := ?v1u42) ?hi1u42 (by kernel_rfl) (by kernel_rfl) (by kernel_rfl) ?hQ1u42 (Or.inl ⟨?hw1u42, ?hy1u42⟩) hHeld ?rest1u42
                case hi1u42 => (simp only [List.getElem?_toArray, List.getElem?_cons_succ, List.getElem?_cons_zero]; exact rfl)
                case hQ1u42 => exact fun _ _ _ h => h
                case hw1u42 => rfl
                case hy1u42 => (intro w hSw; (try dsimp only at hSw); go_simp <;> with_reducible rfl)
                try simp only [Act.put, List.setIfInBounds_toArray, List.set_cons_zero, List.set_cons_succ]
                refine wpAnyH_take (i := 2) (oi := ?oi2u43) (v := ?v2u43) ?hi2u43 (by kernel_rfl) (by kernel_rfl) (by kernel_rfl) ?hQ2u43 (Or.inl ⟨?hw2u43, ?hy2u43⟩) hHeld ?rest2u43
                case hi2u43 => (simp only [List.getElem?_toArray, List.getElem?_cons_succ, List.getElem?_cons_zero]; exact rfl)
                case hQ2u43 => exact fun _ _ _ h => h
                case hw2u43 => rfl
                case hy2u43 => (intro w hSw; (try dsimp only at hSw); go_simp <;> with_reducible rfl)
                try simp only [Act.put, List.setIfInBounds_toArray, List.set_cons_zero, List.set_cons_succ]
                refine wpAnyH_take (i := 3) (oi := ?oi3u44) (v := ?v3u44) ?hi3u44 (by kernel_rfl) (by kernel_rfl) (by kernel_rfl) ?hQ3u44 (Or.inl ⟨?hw3u44, ?hy3u44⟩) hHeld ?rest3u44
                case hi3u44 => (simp only [List.getElem?_toArray, List.getElem?_cons_succ, List.getElem?_cons_zero]; exact rfl)
                case hQ3u44 => exact fun _ _ _ h => h
                case hw3u44 => rfl
                case hy3u44 => (intro w hSw; (try dsimp only at hSw); go_simp <;> with_reducible rfl)
                try simp only [Act.put, List.setIfInBounds_toArray, List.set_cons_zero, List.set_cons_succ]
                refine wpAnyH_take (i := 4) (oi := ?oi4u45) (v := ?v4u45) ?hi4u45 (by kernel_rfl) (by kernel_rfl) (by kernel_rfl) ?hQ4u45 (Or.inl ⟨?hw4u45, ?hy4u45⟩) hHeld ?rest4u45
                case hi4u45 => (simp only [List.getElem?_toArray, List.getElem?_cons_succ, List.getElem?_cons_zero]; exact rfl)
                case hQ4u45 => exact fun _ _ _ h => h
                case hw4u45 => rfl
                case hy4u45 => (intro w hSw; (try dsimp only at hSw); go_simp <;> with_reducible rfl)
                try simp only [Act.put, List.setIfInBounds_toArray, List.set_cons_zero, List.set_cons_succ]
                refine wpAnyH_take (i := 5) (oi := ?oi5u46) (v := ?v5u46) ?hi5u46 (by kernel_rfl) (by kernel_rfl) (by kernel_rfl) ?hQ5u46 (Or.inl ⟨?hw5u46, ?hy5u46⟩) hHeld ?rest5u46
                case hi5u46 => (simp only [List.getElem?_toArray, List.getElem?_cons_succ, List.getElem?_cons_zero]; exact rfl)
                case hQ5u46 => exact fun _ _ _ h => h
                case hw5u46 => rfl
                case hy5u46 => (intro w hSw; (try dsimp only at hSw); go_simp <;> with_reducible rfl)
                try simp only [Act.put, List.setIfInBounds_toArray, List.set_cons_zero, List.set_cons_succ]
                refine held_one (i := 6) (o := ?oi6u47) (by kernel_rfl) ?hi6u47 (fun K hK => ?rest6u47)
                case hi6u47 => (simp only [List.getElem?_toArray, List.getElem?_cons_succ, List.getElem?_cons_zero]; exact rfl)
                go_simp
                go_at_call 48
                refine (Hbo.out _ hb.drew).mono ?_
                rintro e w5 ⟨rfl, hb5⟩
                have hbw5 := hb.drew.trans (hb5.mono hb.size)
                have hx5 := (hb5.block w.heap.size yl).trans Hx0.out
                obtain ⟨v0, v1, v2, vl⟩ := open3 hx5
                have hcl5 := (hb5.cell (p := ⟨bt, ot + i, none⟩) (Nat.lt_of_lt_of_le hbt hb.size)).trans hct1
                have Hb5 := Lib.hid hb5
                have Hx5 := Lib.hid hx5
                have Hbw5 := Lib.hid hbw5
                clear hb5 hx5 hbw5
                try go_simp
                have hHeld8 : (fun w' : World => w'.cell? ⟨w.heap.size, 0, none⟩ = some (.slice A q c) ∧ w'.cell? ⟨w.heap.size, 1, none⟩ = some (.slice (some ⟨bt, ot, none⟩) m d) ∧ w'.cell? ⟨w.heap.size, 2, none⟩ = some (.int .i64 r) ∧ w'.cell? ⟨bt, ot + i, none⟩ = some (.int .i64 x)) w5 := ⟨v0, v1, v2, hcl5⟩
                refine hK _ _ hHeld8 ?_
                clear hK K hHeld
                have hHeld := hHeld8
                clear hHeld8
                try simp only [Act.put, List.setIfInBounds_toArray, List.set_cons_zero, List.set_cons_succ]
                refine wpAnyH_take (i := 7) (oi := ?oi7u48) (v := ?v7u48) ?hi7u48 (by kernel_rfl) (by kernel_rfl) (by kernel_rfl) ?hQ7u48 (Or.inl ⟨?hw7u48, ?hy7u48⟩) hHeld ?rest7u48
                case hi7u48 => (simp only [List.getElem?_toArray, List.getElem?_cons_succ, List.getElem?_cons_zero]; exact rfl)
                case hQ7u48 => exact fun _ _ _ h => h
                case hw7u48 => rfl
                case hy7u48 => (intro w hSw; (try dsimp only at hSw); go_simp <;> with_reducible rfl)
                try simp only [Act.put, List.setIfInBounds_toArray, List.set_cons_zero, List.set_cons_succ]
                refine wpAnyH_take (i := 8) (oi := ?oi8u49) (v := ?v8u49) ?hi8u49 (by kernel_rfl) (by kernel_rfl) (by kernel_rfl) ?hQ8u49 (Or.inl ⟨?hw8u49, ?hy8u49⟩) hHeld ?rest8u49
                case hi8u49 => (simp only [List.getElem?_toArray, List.getElem?_cons_succ, List.getElem?_cons_zero]; exact rfl)
                case hQ8u49 => exact fun _ _ _ h => h
                case hw8u49 => rfl
                case hy8u49 => (intro w hSw; (try dsimp only at hSw); go_simp <;> with_reducible rfl)
                try simp only [Act.put, List.setIfInBounds_toArray, List.set_cons_zero, List.set_cons_succ]
                refine wpAnyH_take (i := 9) (oi := ?oi9u50) (v := ?v9u50) ?hi9u50 (by kernel_rfl) (by kernel_rfl) (by kernel_rfl) ?hQ9u50 (Or.inl ⟨?hw9u50, ?hy9u50⟩) hHeld ?rest9u50
                case hi9u50 => (simp only [List.getElem?_toArray, List.getElem?_cons_succ, List.getElem?_cons_zero]; exact rfl)
                case hQ9u50 => exact fun _ _ _ h => h
                case hw9u50 => rfl
                case hy9u50 => (intro w hSw; (try dsimp only at hSw); go_simp <;> with_reducible rfl)
                try simp only [Act.put, List.setIfInBounds_toArray, List.set_cons_zero, List.set_cons_succ]
                refine wpAnyH_take (i := 10) (oi := ?oi10u51) (v := ?v10u51) ?hi10u51 (by kernel_rfl) (by kernel_rfl) (by kernel_rfl) ?hQ10u51 (Or.inl ⟨?hw10u51, ?hy10u51⟩) hHeld ?rest10u51
                case hi10u51 => (simp only [List.getElem?_toArray, List.getElem?_cons_succ, List.getElem?_cons_zero]; exact rfl)
                case hQ10u51 => exact fun _ _ _ h => h
                case hw10u51 => rfl
                case hy10u51 => (intro w hSw; (try dsimp only at hSw); go_simp <;> with_reducible rfl)
                try simp only [Act.put, List.setIfInBounds_toArray, List.set_cons_zero, List.set_cons_succ]
                refine wpAnyH_take (i := 11) (oi := ?oi11u52) (v := ?v11u52) ?hi11u52 (by kernel_rfl) (by kernel_rfl) (by kernel_rfl) ?hQ11u52 (Or.inl ⟨?hw11u52, ?hy11u52⟩) hHeld ?rest11u52
                case hi11u52 => (simp only [List.getElem?_toArray, List.getElem?_cons_succ, List.getElem?_cons_zero]; exact rfl)
                case hQ11u52 => exact fun _ _ _ h => h
                case hw11u52 => rfl
                case hy11u52 => (intro w hSw; (try dsimp only at hSw); go_simp <;> with_reducible rfl)
                try simp only [Act.put, List.setIfInBounds_toArray, List.set_cons_zero, List.set_cons_succ]
                refine wpAnyH_take (i := 12) (oi := ?oi12u53) (v := ?v12u53) ?hi12u53 (by kernel_rfl) (by kernel_rfl) (by kernel_rfl) ?hQ12u53 (Or.inl ⟨?hw12u53, ?hy12u53⟩) hHeld ?rest12u53
                case hi12u53 => (simp only [List.getElem?_toArray, List.getElem?_cons_succ, List.getElem?_cons_zero]; exact rfl)
                case hQ12u53 => exact fun _ _ _ h => h
                case hw12u53 => rfl
                case hy12u53 => (intro w hSw; (try dsimp only at hSw); go_simp <;> with_reducible rfl)
                try simp only [Act.put, List.setIfInBounds_toArray, List.set_cons_zero, List.set_cons_succ]
                refine wpAnyH_take (i := 13) (oi := ?oi13u54) (v := ?v13u54) ?hi13u54 (by kernel_rfl) (by kernel_rfl) (by kernel_rfl) ?hQ13u54 (Or.inl ⟨?hw13u54, ?hy13u54⟩) hHeld ?rest13u54
                case hi13u54 => (simp only [List.getElem?_toArray, List.getElem?_cons_succ, List.getElem?_cons_zero]; exact rfl)
                case hQ13u54 => exact fun _ _ _ h => h
                case hw13u54 => rfl
                case hy13u54 => (intro w hSw; (try dsimp only at hSw); go_simp <;> with_reducible rfl)
                try simp only [Act.put, List.setIfInBounds_toArray, List.set_cons_zero, List.set_cons_succ]
                refine wpAnyH_take (i := 14) (oi := ?oi14u55) (v := ?v14u55) ?hi14u55 (by kernel_rfl) (by kernel_rfl) (by kernel_rfl) ?hQ14u55 (Or.inl ⟨?hw14u55, ?hy14u55⟩) hHeld ?rest14u55
                case hi14u55 => (simp only [List.getElem?_toArray, List.getElem?_cons_succ, List.getElem?_cons_zero]; exact rfl)
                case hQ14u55 => exact fun _ _ _ h => h
                case hw14u55 => rfl
                case hy14u55 => (intro w hSw; (try dsimp only at hSw); go_simp <;> with_reducible rfl)
                try simp only [Act.put, List.setIfInBounds_toArray, List.set_cons_zero, List.set_cons_succ]
                refine wpAnyH_take (i := 15) (oi := ?oi15u56) (v := ?v15u56) ?hi15u56 (by kernel_rfl) (by kernel_rfl) (by kernel_rfl) ?hQ15u56 (Or.inl ⟨?hw15u56, ?hy15u56⟩) hHeld ?rest15u56
                case hi15u56 => (simp only [List.getElem?_toArray, List.getElem?_cons_succ, List.getElem?_cons_zero]; exact rfl)
                case hQ15u56 => exact fun _ _ _ h => h
                case hw15u56 => rfl
                case hy15u56 => (intro w hSw; (try dsimp only at hSw); go_simp <;> with_reducible rfl)
                try simp only [Act.put, List.setIfInBounds_toArray, List.set_cons_zero, List.set_cons_succ]
                refine wpAnyH_take (i := 16) (oi := ?oi16u57) (v := ?v16u57) ?hi16u57 (by kernel_rfl) (by kernel_rfl) (by kernel_rfl) ?hQ16u57 (Or.inl ⟨?hw16u57, ?hy16u57⟩) hHeld ?rest16u57
                case hi16u57 => (simp only [List.getElem?_toArray, List.getElem?_cons_succ, List.getElem?_cons_zero]; exact rfl)
                case hQ16u57 => exact fun _ _ _ h => h
                case hw16u57 => rfl
                case hy16u57 => (intro w hSw; (try dsimp only at hSw); go_simp <;> with_reducible rfl)
                try simp only [Act.put, List.setIfInBounds_toArray, List.set_cons_zero, List.set_cons_succ]
                refine wpAnyH_take (i := 17) (oi := ?oi17u58) (v := ?v17u58) ?hi17u58 (by kernel_rfl) (by kernel_rfl) (by kernel_rfl) ?hQ17u58 (Or.inl ⟨?hw17u58, ?hy17u58⟩) hHeld ?rest17u58
                case hi17u58 => (simp only [List.getElem?_toArray, List.getElem?_cons_succ, List.getElem?_cons_zero]; exact rfl)
                case hQ17u58 => exact fun _ _ _ h => h
                case hw17u58 => rfl
                case hy17u58 => (intro w hSw; (try dsimp only at hSw); go_simp <;> with_reducible rfl)
                try simp only [Act.put, List.setIfInBounds_toArray, List.set_cons_zero, List.set_cons_succ]
                refine held_one (i := 18) (o := ?oi18u59) (by kernel_rfl) ?hi18u59 (fun K hK => ?rest18u59)
                case hi18u59 => (simp only [List.getElem?_toArray, List.getElem?_cons_succ, List.getElem?_cons_zero]; exact rfl)
                go_simp
                go_at_call 34
                refine (Hinn.out _ Hbw5.out).mono ?_
                rintro e w6 ⟨rfl, rfl⟩
                try go_simp
                have hHeld8 : (fun w' : World => w'.cell? ⟨w.heap.size, 0, none⟩ = some (.slice A q c) ∧ w'.cell? ⟨w.heap.size, 1, none⟩ = some (.slice (some ⟨bt, ot, none⟩) m d) ∧ w'.cell? ⟨w.heap.size, 2, none⟩ = some (.int .i64 r) ∧ w'.cell? ⟨bt, ot + i, none⟩ = some (.int .i64 x)) w5 := ⟨v0, v1, v2, hcl5⟩
                refine hK _ _ hHeld8 ?_
                clear hK K hHeld
                have hHeld := hHeld8
                clear hHeld8
                try simp only [Act.put, List.setIfInBounds_toArray, List.set_cons_zero, List.set_cons_succ]
                refine wpAnyH_take (i := 19) (oi := ?oi19u60) (v := ?v19u60) ?hi19u60 (by kernel_rfl) (by kernel_rfl) (by kernel_rfl) ?hQ19u60 (Or.inl ⟨?hw19u60, ?hy19u60⟩) hHeld ?rest19u60
                case hi19u60 => (simp only [List.getElem?_toArray, List.getElem?_cons_succ, List.getElem?_cons_zero]; exact rfl)
                case hQ19u60 => exact fun _ _ _ h => h
                case hw19u60 => rfl
                case hy19u60 => (intro w hSw; (try dsimp only at hSw); go_simp <;> with_reducible rfl)
                try simp only [Act.put, List.setIfInBounds_toArray, List.set_cons_zero, List.set_cons_succ]
                refine wpAnyH_done (by kernel_rfl) ?_ _
                go_wp2
                go_ret
                exact ⟨ret_bool (hno.out.symm.trans HR.out), Hbw5.out⟩
        · have hin2 : i = m := by omega
          subst hin2
          have htr := trOkB_mk (l := l) (tr := tr) (fun j x hx => hall2.out j x (by have := (List.getElem?_eq_some_iff.1 hx).1; have := Htl.out; omega) hx)
          have hro := qround_any A B q c i d r l wr (HC.out.below hb) Hshp.out hn
          cases ho : roundB l
          all_goals
            rw [ho] at hro
            have Hro := Lib.hid hro
            have hfin : Hid (rightH ⟨l, tr, r⟩ = !(roundB l)) := Lib.hid (by rw [hroom2.out, htr]; rfl)
            rw [ho] at hfin
            clear htr hro ho
            go_wp2_with (first | (go_at_call 49; go_must (refine Hro.out.mono ?_); rintro e w1 ⟨rfl, hb1⟩))
            go_ret
            exact ⟨ret_bool (hfin.out.symm.trans HR.out), hb.trans (hb1.mono hb.size)⟩
end Go.Proofs.Ytlndjooddkjnoaa
