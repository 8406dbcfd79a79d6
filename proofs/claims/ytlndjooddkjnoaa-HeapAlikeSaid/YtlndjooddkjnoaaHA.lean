/- The walk of the document's round: does any slot lead to itself? -/
import Derived.Deep.RegionLaw
import Derived.Test.YtlndjooddkjnoaaC3
import Derived.Test.YtlndjooddkjnoaaB3
set_option linter.unusedVariables false
set_option linter.unusedSimpArgs false
namespace Go.Proofs.Ytlndjooddkjnoaa
open Go.RowKit

set_option maxRecDepth 100000 in
set_option maxHeartbeats 4000000 in
theorem qround_any (A B : Option Addr) (n c m d : Nat) (r : Int) (l : List C) (w : World) (h : IsC w A n c l) (hs : shpB l = true) (hn : n ≤ 100000) :
    Calls Try.prog 49 #[.agg #[.slice A n c, .slice B m d, .int .i64 r]] w (RetV w (.bool (roundB l))) := by
  have hl := h.len
  have Hl := Lib.hid hl
  have Hs := Lib.hid hs
  have HC := Lib.hid h
  clear hl hs h
  generalize hR : roundB l = R
  have HR := Lib.hid hR
  clear hR
  go_enter Try.func49, Try.ntmps49
  go_wp2
  go_loopw [3] (fun iv wr => ∃ p : Nat, p ≤ n ∧ iv = .int .i64 p ∧ Hid (∀ j, j < p → ∀ q ∈ leads l j, ¬ Path l q j) ∧ Below w.heap.size w wr ∧ wr.heap[w.heap.size]? = some (.cells #[.slice A n c, .slice B m d, .int .i64 r] 25 (0, 0))) (fun iv _ => n - (intOf iv).toNat)
  case atStart => exact ⟨0, Nat.zero_le _, rfl, Lib.hid (fun j hj => by omega), (Below.refl _ _).alloc (Nat.le_refl _) _, alloc_at rfl⟩
  case round =>
    obtain ⟨p, hp, rfl, hall, hb, hx0⟩ := hrel
    obtain ⟨y0, y1, y2, yl⟩ := open3 hx0
    have Hx0 := Lib.hid hx0
    clear hx0
    by_cases hpn : p < n
    · have hle := qLeads_any A B n c m d r l p wr (HC.out.below hb) Hs.out hn hpn
      have Hle := Lib.hid hle
      clear hle
      have hlen6 := leads_len Hs.out p
      have Hlen6 := Lib.hid hlen6
      clear hlen6
      go_wp2_with (first | (go_at_call 82; go_must (refine Hle.out.mono ?_); rintro e w2 ⟨Al, nl, cl, rfl, hIl, hb1⟩; have hnl : nl ≤ 6 := (by have h1 := hIl.len; have h2 := Hlen6.out; rw [ints_len] at h1; omega); have hlL : (leads l p).length = nl := (by have h1 := hIl.len; rw [ints_len] at h1; omega); have HlL := Lib.hid hlL; clear hlL))
      have hbw2 := hb.trans (hb1.mono hb.size)
      have hx2 := (hb1.block w.heap.size yl).trans Hx0.out
      have HIl := Lib.hid hIl
      clear hIl y0 y1 y2 yl
      go_loopw [5] (fun kv wr => ∃ k : Nat, k ≤ nl ∧ kv = .int .i64 k ∧ Hid (∀ j q, j < k → (leads l p)[j]? = some q → ¬ Path l q p) ∧ Below w2.heap.size w2 wr) (fun kv _ => nl - (intOf kv).toNat)
      case atStart => exact ⟨0, Nat.zero_le _, rfl, Lib.hid (fun j q hj => by omega), Below.refl _ _⟩
      case round =>
        obtain ⟨k, hk, rfl, hall2, hb3⟩ := hrel
        have hx3 := (hb3.block w.heap.size (block_lt hx2)).trans hx2
        obtain ⟨y0, y1, y2, yl⟩ := open3 hx3
        have hbw3 := hbw2.trans (hb3.mono hbw2.size)
        have Hx3 := Lib.hid hx3
        have Hbw3 := Lib.hid hbw3
        clear hx3 hbw3
        by_cases hkn : k < nl
        · obtain ⟨y, hy⟩ : ∃ y, (leads l p)[k]? = some y := ⟨_, List.getElem?_eq_getElem (by rw [HlL.out]; exact hkn)⟩
          have hyn : y < n := by have := leads_lt Hs.out (List.mem_of_getElem? hy); have := Hl.out; omega
          have hIl3 := HIl.out.below hb3
          obtain ⟨bl, ol, hA, hbl, _, hcl⟩ := hIl3.at_ (ints_get hy)
          have hilc := hIl3.sl.hcap
          have hilm := hIl3.sl.hmax
          unfold maxLen at hilm
          have Hy := Lib.hid hy
          subst hA
          have hre := fun wz (hz : Below wr.heap.size wr wz) => qReach_any A B n c m d r l y wz ((HC.out.below Hbw3.out).below hz) Hs.out hn hyn
          have Hre := Lib.hid hre
          have hpl : p < n := hpn
          clear hy hIl3 hre
          go_upto_region 8 with fail
          cases hpy : pathB l y p
          · have Hpy := Lib.hid hpy
            clear hpy
            go_region_law (first
                | (go_simp; go_at_call 66; refine (Hre.out _ ((Below.refl _ _).drew)).mono ?_; rintro e w5 ⟨g5, rfl, hg5, hr5, hb5⟩; have hc5 := hr5.cell hpl; simp only [Hpy.out] at hc5; have hbr5 := ((Below.refl wr.heap.size wr).drew).trans hb5; have hx5 := (hbr5.block w.heap.size yl).trans Hx3.out; obtain ⟨v0, v1, v2, vl⟩ := open3 hx5; have hcl5 := (hbr5.cell (p := ⟨bl, ol + k, none⟩) hbl).trans hcl; clear hx5)
                | fail)
            all_goals
              go_wp2
              go_roundw
              case rel =>
                refine ⟨k + 1, by omega, by go_num, Lib.hid (fun j q hj hjq => ?_), hb3.trans (hbr5.mono hb3.size)⟩
                by_cases e : j = k
                · subst e
                  rw [Hy.out] at hjq
                  cases hjq
                  intro hp2
                  have h1 := (pathB_iff l y p).2 hp2
                  rw [Hpy.out] at h1
                  cases h1
                · exact hall2.out j q (by omega) hjq
              case measure => simp [intOf]; omega
          · have Hpy := Lib.hid hpy
            clear hpy
            go_region_law (first
                | (go_simp; go_at_call 66; refine (Hre.out _ ((Below.refl _ _).drew)).mono ?_; rintro e w5 ⟨g5, rfl, hg5, hr5, hb5⟩; have hc5 := hr5.cell hpl; simp only [Hpy.out] at hc5; have hbr5 := ((Below.refl wr.heap.size wr).drew).trans hb5; have hx5 := (hbr5.block w.heap.size yl).trans Hx3.out; obtain ⟨v0, v1, v2, vl⟩ := open3 hx5; have hcl5 := (hbr5.cell (p := ⟨bl, ol + k, none⟩) hbl).trans hcl; clear hx5)
                | fail)
            all_goals
              have hyes : roundB l = true := roundB_yes ⟨p, y, List.mem_of_getElem? Hy.out, (pathB_iff l y p).1 Hpy.out⟩
              have Hyes := Lib.hid hyes
              clear hyes
              go_wp2
              go_ret
              exact ⟨ret_bool (Hyes.out.symm.trans HR.out), Hbw3.out.trans (hbr5.mono (by omega))⟩
        · have hall3 : Hid (∀ q ∈ leads l p, ¬ Path l q p) := Lib.hid (fun q hq => by
            obtain ⟨j, hj, he⟩ := List.getElem_of_mem hq
            exact hall2.out j q (by have := HlL.out; omega) (by rw [List.getElem?_eq_getElem hj, he]))
          have hwr := Hbw3.out.size
          go_wp2
          go_roundw
          case rel =>
            refine ⟨p + 1, by omega, by go_num, Lib.hid (fun j hj => ?_), Hbw3.out, Hx3.out⟩
            by_cases e : j = p
            · subst e; exact hall3.out
            · exact hall.out j (by omega)
          case measure => simp [intOf]; omega
    · have hpn2 : p = n := by omega
      subst hpn2
      have hno := roundB_no (l := l) (fun j hj => hall.out j (by rw [← Hl.out]; exact hj))
      have Hno := Lib.hid hno
      clear hno
      go_wp2
      go_ret
      exact ⟨ret_bool (Hno.out.symm.trans HR.out), hb⟩
end Go.Proofs.Ytlndjooddkjnoaa
