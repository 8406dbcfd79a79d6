/- The walk of the code's shaped. -/
import Derived.Test.YtlndjooddkjnoaaH8
set_option linter.unusedVariables false
set_option linter.unusedSimpArgs false
namespace Go.Proofs.Ytlndjooddkjnoaa
open Go.RowKit

theorem shp_no {l : List C} {p : Nat} (hp : p < l.length) (h : okSl l p (sAt l p) = false) : shpB l = false := by
  cases hs : shpB l
  · rfl
  · rw [shp_at hs hp] at h; cases h
theorem drop_any {l : List C} {q a : Nat} (h : q + 1 + a ≤ l.length) : (((l.drop (q + 1)).take a).any fun x => x.kind == 4) = ((List.range a).any fun i => (sAt l (q + 1 + i)).kind == 4) := by
  have e : (l.drop (q + 1)).take a = (List.range a).map fun i => sAt l (q + 1 + i) := by
    refine List.ext_getElem? fun i => ?_
    rw [List.getElem?_take, List.getElem?_map]
    by_cases hi : i < a
    · rw [if_pos hi, List.getElem?_drop, sAt_some (by omega), List.getElem?_range hi]; rfl
    · rw [if_neg hi, List.getElem?_eq_none (by simp; omega)]; rfl
  rw [e, List.any_map]
  rfl
set_option maxRecDepth 100000 in
set_option maxHeartbeats 8000000 in
theorem hshaped_any (A B : Option Addr) (n c m d : Nat) (r : Int) (l : List C) (w : World) (h : IsC w A n c l) (hn : n ≤ 100000) :
    Calls Try.prog 41 #[.agg #[.slice A n c, .slice B m d, .int .i64 r]] w (RetV w (.bool (shpB l))) := by
  have hmf : ∀ (fn : Fn) (first cap : Array Value) (w : World), (Instr.makeFunc fn first cap).run Try.prog w = .ok (.func fn first cap) w := fun _ _ _ _ => rfl
  have hl := h.len
  have Hl := Lib.hid hl
  have HC := Lib.hid h
  clear hl
  generalize hR : shpB l = R
  have HR := Lib.hid hR
  clear hR
  go_enter Try.func41, Try.ntmps41
  go_wp2
  clear hmf
  go_loopw [11] (fun iv wr => ∃ q : Nat, q ≤ n ∧ iv = .int .i64 q ∧ Hid (∀ j, j < q → okSl l j (sAt l j) = true) ∧ Below w.heap.size w wr ∧ wr.heap[w.heap.size]? = some (.cells #[.slice A n c, .slice B m d, .int .i64 r] 25 (0, 0))) (fun iv _ => n - (intOf iv).toNat)
  case atStart => exact ⟨0, Nat.zero_le _, rfl, Lib.hid (fun j hj => by omega), (Below.refl _ _).alloc (Nat.le_refl _) _, alloc_at rfl⟩
  case round =>
    obtain ⟨q, hq, rfl, hall, hb, hx0⟩ := hrel
    by_cases hqn : q < n
    · obtain ⟨x, hxc⟩ := h.get hqn
      obtain ⟨b, off, rfl, hbb, hwf, h0, h1, h2⟩ := h.at_ hxc
      have hsx := sAt_get hxc
      have Hsx := Lib.hid hsx
      obtain ⟨kd, s, v⟩ := x
      obtain ⟨hwk, hwv, hws⟩ := hwf
      simp only at hwk hwv hws h0 h1 h2
      have Hwv := Lib.hid hwv
      obtain ⟨hv1, hv2⟩ := hwv
      have hwl := block_lt hx0
      have Hx0 := Lib.hid hx0
      have Hb := Lib.hid hb
      obtain ⟨y0, y1, y2, yl⟩ := open3 hx0
      obtain ⟨hc, hf⟩ := bcell hb
      clear hsx hxc hx0 hb
      go_upto_region 5 with fail
      clear y0 y1 y2 yl hc hf
      refine wp_world' (Φ := fun X => Below w.heap.size w X ∧ X.heap.size = wr.heap.size + 1 ∧ X.heap[w.heap.size]? = some (.cells #[.slice (some ⟨b, off, none⟩) n c, .slice B m d, .int .i64 r] 25 (0, 0)) ∧ X.heap[wr.heap.size]? = some (.cells #[.int .i64 kd, .string s, .int .i64 v] 68 (0, 0)))
        ⟨Hb.out.alloc (by omega) _, (by first | omega | (simp; done) | (simp; omega)), (alloc_past (by first | omega | (simp; done) | (simp; omega))).trans Hx0.out, alloc_at rfl⟩ ?_
      rintro X ⟨hbX, hX1, x0, x1⟩
      obtain ⟨gi, hgi⟩ : ∃ gi, gi = wr.heap.size := ⟨_, rfl⟩
      rw [← hgi] at x1 hX1 ⊢
      obtain ⟨y0, y1, y2, yl⟩ := open3 x0
      obtain ⟨z0, z1, z2, zl⟩ := open3 x1
      obtain ⟨hc, hf⟩ := bcell hbX
      have HX0 := Lib.hid x0
      have HX1 := Lib.hid x1
      have hwX : w.heap.size ≤ X.heap.size := by omega
      have hCX := HC.out.below hbX
      have HCX := Lib.hid hCX
      clear x0 x1 hX1 hgi hwl Hx0 Hb hCX
      have hwi := hwithin_any (some ⟨b, off, none⟩) B n c m d r v X hn
      have Hwi := Lib.hid hwi
      have htp := shaped1_any w.heap.size (some ⟨b, off, none⟩) B n c m d r l v X HCX.out hn HX0.out Hwv.out
      have Htp := Lib.hid htp
      clear hwi htp h
      by_cases k1 : kd = 1
      · subst k1
        by_cases he : s.toList = []
        · obtain rfl := toList_nil he
          cases hin : (decide (0 ≤ v) && decide (v < (n : Int)))
          · rw [hin] at Hwi
            have hno : Hid (okSl l q ⟨1, ⟨#[]⟩, v⟩ = false) := Lib.hid (by simp [okSl, empty_toList, Hl.out, hin])
            clear he hin
            go_wp2_with (first | (go_at_call 42; go_must (refine Hwi.out.mono ?_); rintro e w1 ⟨rfl, hbx1⟩; have hbw1 := hbX.trans (hbx1.mono hwX); have w0 := (hbx1.block w.heap.size yl).trans HX0.out; have w2 := (hbx1.block gi zl).trans HX1.out; obtain ⟨v0, v1, v2, vl⟩ := open3 w0; obtain ⟨u0, u1, u2, ul⟩ := open3 w2; obtain ⟨hc, hf⟩ := bcell hbw1; clear w0 w2))
            go_ret
            exact ⟨ret_bool (((shp_no (p := q) (by rw [Hl.out]; exact hqn) (by rw [Hsx.out]; exact hno.out)).symm).trans HR.out), hbw1⟩
          · rw [hin] at Hwi
            have hyes : Hid (okSl l q ⟨1, ⟨#[]⟩, v⟩ = true) := Lib.hid (by simp [okSl, empty_toList, Hl.out, hin])
            clear he hin
            go_wp2_with (first | (go_at_call 42; go_must (refine Hwi.out.mono ?_); rintro e w1 ⟨rfl, hbx1⟩; have hbw1 := hbX.trans (hbx1.mono hwX); have w0 := (hbx1.block w.heap.size yl).trans HX0.out; have w2 := (hbx1.block gi zl).trans HX1.out; obtain ⟨v0, v1, v2, vl⟩ := open3 w0; obtain ⟨u0, u1, u2, ul⟩ := open3 w2; obtain ⟨hc, hf⟩ := bcell hbw1; clear w0 w2))
            go_roundw
            case rel => exact ⟨q + 1, by omega, by go_num, Lib.hid (fun j hj => by
              by_cases e : j = q
              · subst e; rw [Hsx.out]; exact hyes.out
              · exact hall.out j (by omega)), hbw1, (hbx1.block w.heap.size yl).trans HX0.out⟩
            case measure => simp [intOf]; omega
        · have hno : Hid (okSl l q ⟨1, s, v⟩ = false) := Lib.hid (by simp [okSl, he])
          have he2 : s.toList.isEmpty = false := by simpa using he
          have hbx1 := Below.refl X.heap.size X; have hbw1 := hbX
          go_wp2
          go_ret
          exact ⟨ret_bool (((shp_no (p := q) (by rw [Hl.out]; exact hqn) (by rw [Hsx.out]; exact hno.out)).symm).trans HR.out), hbw1⟩
      by_cases k2 : kd = 2
      · subst k2
        have hbx1 := Below.refl X.heap.size X; have hbw1 := hbX
        by_cases he : s.toList = []
        · obtain rfl := toList_nil he
          clear he
          by_cases hv3 : -2147483647 ≤ v
          · by_cases hv4 : v ≤ 2147483647
            · have hyes : Hid (okSl l q ⟨2, ⟨#[]⟩, v⟩ = true) := Lib.hid (by simp [okSl, empty_toList, hv3, hv4])
              go_wp2
              go_roundw
              case rel => exact ⟨q + 1, by omega, by go_num, Lib.hid (fun j hj => by
                by_cases e : j = q
                · subst e; rw [Hsx.out]; exact hyes.out
                · exact hall.out j (by omega)), hbw1, (hbx1.block w.heap.size yl).trans HX0.out⟩
              case measure => simp [intOf]; omega
            · have hno : Hid (okSl l q ⟨2, ⟨#[]⟩, v⟩ = false) := Lib.hid (by simp [okSl, empty_toList, hv4])
              go_wp2
              go_ret
              exact ⟨ret_bool (((shp_no (p := q) (by rw [Hl.out]; exact hqn) (by rw [Hsx.out]; exact hno.out)).symm).trans HR.out), hbw1⟩
          · have hno : Hid (okSl l q ⟨2, ⟨#[]⟩, v⟩ = false) := Lib.hid (by simp [okSl, empty_toList, hv3])
            go_wp2
            go_ret
            exact ⟨ret_bool (((shp_no (p := q) (by rw [Hl.out]; exact hqn) (by rw [Hsx.out]; exact hno.out)).symm).trans HR.out), hbw1⟩
        · have hno : Hid (okSl l q ⟨2, s, v⟩ = false) := Lib.hid (by simp [okSl, he])
          have he2 : s.toList.isEmpty = false := by simpa using he
          go_wp2
          go_ret
          exact ⟨ret_bool (((shp_no (p := q) (by rw [Hl.out]; exact hqn) (by rw [Hsx.out]; exact hno.out)).symm).trans HR.out), hbw1⟩
      by_cases k3 : kd = 3
      · subst k3
        by_cases he : s.toList = []
        · obtain rfl := toList_nil he
          cases hin : ((decide (0 ≤ v) && decide (v < (n : Int))) && (sAt l v.toNat).kind == 4)
          · rw [hin] at Htp
            have hno : Hid (okSl l q ⟨3, ⟨#[]⟩, v⟩ = false) := Lib.hid (by simp only [okSl, empty_toList, Hl.out]; simpa using hin)
            clear he hin
            go_wp2_with (first | (go_at_call 77; go_must (refine Htp.out.mono ?_); rintro e w1 ⟨rfl, hbx1⟩; have hbw1 := hbX.trans (hbx1.mono hwX); have w0 := (hbx1.block w.heap.size yl).trans HX0.out; have w2 := (hbx1.block gi zl).trans HX1.out; obtain ⟨v0, v1, v2, vl⟩ := open3 w0; obtain ⟨u0, u1, u2, ul⟩ := open3 w2; obtain ⟨hc, hf⟩ := bcell hbw1; clear w0 w2))
            go_ret
            exact ⟨ret_bool (((shp_no (p := q) (by rw [Hl.out]; exact hqn) (by rw [Hsx.out]; exact hno.out)).symm).trans HR.out), hbw1⟩
          · rw [hin] at Htp
            have hyes : Hid (okSl l q ⟨3, ⟨#[]⟩, v⟩ = true) := Lib.hid (by simp only [okSl, empty_toList, Hl.out]; simpa using hin)
            clear he hin
            go_wp2_with (first | (go_at_call 77; go_must (refine Htp.out.mono ?_); rintro e w1 ⟨rfl, hbx1⟩; have hbw1 := hbX.trans (hbx1.mono hwX); have w0 := (hbx1.block w.heap.size yl).trans HX0.out; have w2 := (hbx1.block gi zl).trans HX1.out; obtain ⟨v0, v1, v2, vl⟩ := open3 w0; obtain ⟨u0, u1, u2, ul⟩ := open3 w2; obtain ⟨hc, hf⟩ := bcell hbw1; clear w0 w2))
            go_roundw
            case rel => exact ⟨q + 1, by omega, by go_num, Lib.hid (fun j hj => by
              by_cases e : j = q
              · subst e; rw [Hsx.out]; exact hyes.out
              · exact hall.out j (by omega)), hbw1, (hbx1.block w.heap.size yl).trans HX0.out⟩
            case measure => simp [intOf]; omega
        · have hno : Hid (okSl l q ⟨3, s, v⟩ = false) := Lib.hid (by simp [okSl, he])
          have he2 : s.toList.isEmpty = false := by simpa using he
          have hbx1 := Below.refl X.heap.size X; have hbw1 := hbX
          go_wp2
          go_ret
          exact ⟨ret_bool (((shp_no (p := q) (by rw [Hl.out]; exact hqn) (by rw [Hsx.out]; exact hno.out)).symm).trans HR.out), hbw1⟩
      by_cases k4 : kd = 4
      · subst k4
        have hts := top_split (l := l) (p := q) (x := ⟨4, s, v⟩) rfl
        simp only [Hl.out] at hts
        have HT := Lib.hid hts
        clear hts Hwi Htp
        by_cases v1 : 0 ≤ v
        · by_cases v6 : v ≤ 6
          · obtain ⟨a, rfl⟩ : ∃ a : Nat, v = a := ⟨v.toNat, by omega⟩
            have ha6 : a ≤ 6 := by omega
            have hsum : IntKind.i64.wrap ((q : Int) + a) = (q : Int) + a := IntWalk.i64_in _ (by omega)
            by_cases v3 : q + a < n
            · have hd3 : decide (q + a < n) = true := by simpa using v3
              have hrr := fun w1 (hx : w1.heap[X.heap.size]? = some (.cells #[.int .i64 3, .string s, .int .i64 0] 54 (0, 0))) => tRight_any (some ⟨X.heap.size, 0, none⟩) 1 1 [⟨3, s, 0⟩] w1 ⟨Sl.blk (cs := #[.int .i64 3, .string s, .int .i64 0]) hx rfl (by simp [maxLen]), by intro c hc; simp at hc; subst hc; exact ⟨⟨(by decide : (-9223372036854775808 : Int) ≤ 3), (by decide : (3 : Int) ≤ 9223372036854775807)⟩, i64_0', hws⟩⟩ (by omega)
              rw [right_name] at hrr
              have Hrr := Lib.hid hrr
              clear hrr
              cases ho : okName s
              · rw [ho] at Hrr
                have hno : Hid (okSl l q ⟨4, s, (a : Int)⟩ = false) := by rw [HT.out, ho]; exact Lib.hid (by simp)
                clear ho
                go_wp2_with (first | (go_at_call 78; go_must (refine (Hrr.out _ (alloc_at rfl)).mono ?_); rintro e w1 ⟨rfl, hb1⟩; have hbx1 : Below X.heap.size X w1 := (((Below.refl _ _).alloc (Nat.le_refl _) _).trans (hb1.mono (by first | omega | (simp; done) | (simp; omega)))); have hbw1 := hbX.trans (hbx1.mono hwX); have w0 := (hbx1.block w.heap.size yl).trans HX0.out; have w2 := (hbx1.block gi zl).trans HX1.out; obtain ⟨v0, v1, v2, vl⟩ := open3 w0; obtain ⟨u0, u1, u2, ul⟩ := open3 w2; obtain ⟨hc, hf⟩ := bcell hbw1; clear w0 w2))
                go_ret
                exact ⟨ret_bool (((shp_no (p := q) (by rw [Hl.out]; exact hqn) (by rw [Hsx.out]; exact hno.out)).symm).trans HR.out), hbw1⟩
              · rw [ho] at Hrr
                have Ho := Lib.hid ho
                clear ho
                have hcap1 := HC.out.sl.hcap
                have hcap2 := HC.out.sl.hmax
                unfold maxLen at hcap2
                by_cases hcq : c = q + 1
                · obtain rfl : a = 0 := by omega
                  subst hcq
                  have hyes : Hid (okSl l q ⟨4, s, ((0 : Nat) : Int)⟩ = true) := by rw [HT.out, Ho.out]; exact Lib.hid (by simp; omega)
                  have hcs := fun w1 => containsS_any (some ⟨b, off, none⟩) 0 0 [] w1 (IsC.nil _ _ _ (by simp [maxLen])) (by omega)
                  have Hcs := Lib.hid hcs
                  clear hcs
                  go_wp2_with (first
                    | (go_at_call 78; go_must (refine (Hrr.out _ (alloc_at rfl)).mono ?_); rintro e w1 ⟨rfl, hb1⟩; have hbx1 : Below X.heap.size X w1 := (((Below.refl _ _).alloc (Nat.le_refl _) _).trans (hb1.mono (by first | omega | (simp; done) | (simp; omega)))); have hbw1 := hbX.trans (hbx1.mono hwX); have w0 := (hbx1.block w.heap.size yl).trans HX0.out; have w2 := (hbx1.block gi zl).trans HX1.out; obtain ⟨v0, v1, v2, vl⟩ := open3 w0; obtain ⟨u0, u1, u2, ul⟩ := open3 w2; obtain ⟨hc, hf⟩ := bcell hbw1; clear w0 w2)
                    | (go_at_call 79; go_must (refine (Hcs.out _).mono ?_); rintro e w3 ⟨rfl, hb3⟩; replace hbx1 := hbx1.trans (hb3.mono hbx1.size); clear hbw1 v0 v1 v2 vl u0 u1 u2 ul hc hf; have hbw1 := hbX.trans (hbx1.mono hwX); have w0 := (hbx1.block w.heap.size yl).trans HX0.out; have w2 := (hbx1.block gi zl).trans HX1.out; obtain ⟨v0, v1, v2, vl⟩ := open3 w0; obtain ⟨u0, u1, u2, ul⟩ := open3 w2; obtain ⟨hc, hf⟩ := bcell hbw1; clear w0 w2))
                  go_roundw
                  case rel => exact ⟨q + 1, by omega, by go_num, Lib.hid (fun j hj => by
                    by_cases e : j = q
                    · subst e; rw [Hsx.out]; exact hyes.out
                    · exact hall.out j (by omega)), hbw1, (hbx1.block w.heap.size yl).trans HX0.out⟩
                  case measure => simp [intOf]; omega
                · have hcut := HC.out.cut' (lo := q + 1) (hi := q + 1 + a) (by omega) (by omega) hcq
                  have ea : q + 1 + a - (q + 1) = a := by omega
                  rw [ea] at hcut
                  have hcs := fun w1 (hb : Below w.heap.size w w1) => containsS_any _ _ _ _ w1 (hcut.below hb) (by omega)
                  rw [drop_any (by rw [Hl.out]; omega)] at hcs
                  have hcc3 : (q : Int) + 1 + a ≤ c := by omega
                  have HE : Hid (((q : Int) + 1 + if 0 < a then (a : Int) else 0).toNat - (q + 1) = a) := Lib.hid (by split <;> omega)
                  have Hcs := Lib.hid hcs
                  have Hcut := Lib.hid hcut
                  clear hcs hcut ea
                  cases hany : ((List.range a).any fun i => (sAt l (q + 1 + i)).kind == 4)
                  · rw [hany] at Hcs
                    have hyes : Hid (okSl l q ⟨4, s, (a : Int)⟩ = true) := by rw [HT.out, Ho.out, Int.toNat_natCast, hany]; exact Lib.hid (by simp; omega)
                    clear hany
                    go_wp2_with (first
                      | (go_at_call 78; go_must (refine (Hrr.out _ (alloc_at rfl)).mono ?_); rintro e w1 ⟨rfl, hb1⟩; have hbx1 : Below X.heap.size X w1 := (((Below.refl _ _).alloc (Nat.le_refl _) _).trans (hb1.mono (by first | omega | (simp; done) | (simp; omega)))); have hbw1 := hbX.trans (hbx1.mono hwX); have w0 := (hbx1.block w.heap.size yl).trans HX0.out; have w2 := (hbx1.block gi zl).trans HX1.out; obtain ⟨v0, v1, v2, vl⟩ := open3 w0; obtain ⟨u0, u1, u2, ul⟩ := open3 w2; obtain ⟨hc, hf⟩ := bcell hbw1; clear w0 w2)
                      | (go_at_call 79; rw [HE.out]; go_must (refine (Hcs.out _ hbw1).mono ?_); rintro e w3 ⟨rfl, hb3⟩; replace hbx1 := hbx1.trans (hb3.mono hbx1.size); clear hbw1 v0 v1 v2 vl u0 u1 u2 ul hc hf; have hbw1 := hbX.trans (hbx1.mono hwX); have w0 := (hbx1.block w.heap.size yl).trans HX0.out; have w2 := (hbx1.block gi zl).trans HX1.out; obtain ⟨v0, v1, v2, vl⟩ := open3 w0; obtain ⟨u0, u1, u2, ul⟩ := open3 w2; obtain ⟨hc, hf⟩ := bcell hbw1; clear w0 w2))
                    go_roundw
                    case rel => exact ⟨q + 1, by omega, by go_num, Lib.hid (fun j hj => by
                      by_cases e : j = q
                      · subst e; rw [Hsx.out]; exact hyes.out
                      · exact hall.out j (by omega)), hbw1, (hbx1.block w.heap.size yl).trans HX0.out⟩
                    case measure => simp [intOf]; omega
                  · rw [hany] at Hcs
                    have hno : Hid (okSl l q ⟨4, s, (a : Int)⟩ = false) := by rw [HT.out, Ho.out, Int.toNat_natCast, hany]; exact Lib.hid (by simp)
                    clear hany
                    go_wp2_with (first
                      | (go_at_call 78; go_must (refine (Hrr.out _ (alloc_at rfl)).mono ?_); rintro e w1 ⟨rfl, hb1⟩; have hbx1 : Below X.heap.size X w1 := (((Below.refl _ _).alloc (Nat.le_refl _) _).trans (hb1.mono (by first | omega | (simp; done) | (simp; omega)))); have hbw1 := hbX.trans (hbx1.mono hwX); have w0 := (hbx1.block w.heap.size yl).trans HX0.out; have w2 := (hbx1.block gi zl).trans HX1.out; obtain ⟨v0, v1, v2, vl⟩ := open3 w0; obtain ⟨u0, u1, u2, ul⟩ := open3 w2; obtain ⟨hc, hf⟩ := bcell hbw1; clear w0 w2)
                      | (go_at_call 79; rw [HE.out]; go_must (refine (Hcs.out _ hbw1).mono ?_); rintro e w3 ⟨rfl, hb3⟩; replace hbx1 := hbx1.trans (hb3.mono hbx1.size); clear hbw1 v0 v1 v2 vl u0 u1 u2 ul hc hf; have hbw1 := hbX.trans (hbx1.mono hwX); have w0 := (hbx1.block w.heap.size yl).trans HX0.out; have w2 := (hbx1.block gi zl).trans HX1.out; obtain ⟨v0, v1, v2, vl⟩ := open3 w0; obtain ⟨u0, u1, u2, ul⟩ := open3 w2; obtain ⟨hc, hf⟩ := bcell hbw1; clear w0 w2))
                    all_goals
                      go_ret
                      exact ⟨ret_bool (((shp_no (p := q) (by rw [Hl.out]; exact hqn) (by rw [Hsx.out]; exact hno.out)).symm).trans HR.out), hbw1⟩
            · have hd3 : decide (q + a < n) = false := by simp; omega
              have hno : Hid (okSl l q ⟨4, s, (a : Int)⟩ = false) := by
                have : decide ((q : Int) + (a : Int) < (n : Int)) = false := by simp; omega
                rw [HT.out, this]; exact Lib.hid (by simp)
              have hbx1 := Below.refl X.heap.size X; have hbw1 := hbX
              go_wp2
              go_ret
              exact ⟨ret_bool (((shp_no (p := q) (by rw [Hl.out]; exact hqn) (by rw [Hsx.out]; exact hno.out)).symm).trans HR.out), hbw1⟩
          · have hno : Hid (okSl l q ⟨4, s, v⟩ = false) := by rw [HT.out]; exact Lib.hid (by simp [v6])
            have hbx1 := Below.refl X.heap.size X; have hbw1 := hbX
            go_wp2
            go_ret
            exact ⟨ret_bool (((shp_no (p := q) (by rw [Hl.out]; exact hqn) (by rw [Hsx.out]; exact hno.out)).symm).trans HR.out), hbw1⟩
        · have hno : Hid (okSl l q ⟨4, s, v⟩ = false) := by rw [HT.out]; exact Lib.hid (by simp [v1])
          have hbx1 := Below.refl X.heap.size X; have hbw1 := hbX
          go_wp2
          go_ret
          exact ⟨ret_bool (((shp_no (p := q) (by rw [Hl.out]; exact hqn) (by rw [Hsx.out]; exact hno.out)).symm).trans HR.out), hbw1⟩
      · have hno : Hid (okSl l q ⟨kd, s, v⟩ = false) := Lib.hid (by simp [okSl, k1, k2, k3, k4])
        have hbx1 := Below.refl X.heap.size X; have hbw1 := hbX
        go_wp2
        go_ret
        exact ⟨ret_bool (((shp_no (p := q) (by rw [Hl.out]; exact hqn) (by rw [Hsx.out]; exact hno.out)).symm).trans HR.out), hbw1⟩
    · have hqn2 : q = n := by omega
      subst hqn2
      have hyes := shp_mk (l := l) (fun p hp => hall.out p (by rw [← Hl.out]; exact hp))
      have Hyes := Lib.hid hyes
      clear hyes
      go_wp2
      go_ret
      exact ⟨ret_bool (Hyes.out.symm.trans HR.out), hb⟩
end Go.Proofs.Ytlndjooddkjnoaa
