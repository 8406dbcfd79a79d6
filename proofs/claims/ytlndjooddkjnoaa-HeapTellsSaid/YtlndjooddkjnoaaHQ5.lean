/- The walks of the document's get and Get. -/
import Derived.Test.YtlndjooddkjnoaaHpI
import Derived.Test.YtlndjooddkjnoaaHG1
set_option linter.unusedVariables false
set_option linter.unusedSimpArgs false
namespace Go.Proofs.Ytlndjooddkjnoaa
open Go.RowKit

theorem isC_lit9 {w : World} {g n : Nat} {l : List C} {cs : Array Value} {t : TypeId} (h : w.heap[g]? = some (.cells cs t (0, 0))) (hc : cs.toList = flatC l) (hl : l.length = n) (hn : n ≤ 1000) (hw : ∀ c ∈ l, c.wf) : IsC w (some ⟨g, 0, none⟩) n n l := by
  have := Sl.blk (size := 3) (n := n) h (by rw [← Array.length_toList, hc, flatC_len, hl]) (by simp [maxLen]; omega)
  rw [hc] at this
  exact ⟨this, hw⟩
def RetgetR (w : World) (l : List C) (p h : Nat) (e : Ending) (w' : World) : Prop := Below w.heap.size w w' ∧ ∃ A n c t, e = .returned (.slice A n c) ∧ IsC w' A n c t ∧ GetR l p h t
set_option maxRecDepth 100000 in
set_option maxHeartbeats 4000000 in
theorem qget_any (A B : Option Addr) (n c m d : Nat) (r : Int) (l : List C) (hg : Good l) (rk : Nat → Nat) (hrk : ∀ p, ∀ q ∈ leads l p, rk q < rk p) (hn : n ≤ 5000) :
    ∀ (M p h : Nat) (w : World), rk p < M → p < n → h ≤ 200 → IsC w A n c l → Calls Try.prog 60 #[.agg #[.slice A n c, .slice B m d, .int .i64 r], .int .i64 p, .int .i64 h] w (RetgetR w l p h) := by
  intro M
  induction M with
  | zero => intro p h w h0; omega
  | succ M ih =>
    intro p h w hM hp hh hC
    have hl := hC.len
    have hpl : p < l.length := by omega
    obtain ⟨hq0, hq⟩ := hg.fol_end hpl
    have hqk := hg.fol_kind hpl
    have hrq := fol_rank hg (fun p q _ h => hrk p q h) hpl
    have hden := hg.den_eq hpl
    have hlead : ∀ i, (sAt l (fol l p)).kind = 4 → i < (sAt l (fol l p)).n.toNat → rk (fol l p + 1 + i) < rk (fol l p) ∧ fol l p + 1 + i < l.length := fun i h4 hi => by
      refine ⟨hrk _ _ ?_, hg.top_lt hq h4 hi⟩
      rw [leads_top h4]
      exact List.mem_map.2 ⟨i, List.mem_range.2 hi, rfl⟩
    have Hfo := Lib.hid (fun wx (hb : Below w.heap.size w wx) => qFollow_any A B n c m d r l p wx (hC.below hb) hg (by omega) hp)
    obtain ⟨x, hxc⟩ := hC.get (show fol l p < n by omega)
    have hsx := sAt_get hxc
    have hokx := shp_at hg.shp hq
    obtain ⟨b, off, rfl, hbb, hwfx, e0, e1, e2⟩ := hC.at_ hxc
    rw [hsx] at hokx hqk hden hlead
    have hqn : fol l p < n := by omega
    generalize fol l p = q at *
    have hcd := hC.sl.hcap
    have hcm := hC.sl.hmax
    unfold maxLen at hcm
    have Ih := Lib.hid ih
    have HC := Lib.hid hC
    have Hl := Lib.hid hl
    have Hden := Lib.hid hden
    have Hlead := Lib.hid hlead
    have Hokx := Lib.hid hokx
    have Hqk := Lib.hid hqk
    have Hwfx := Lib.hid hwfx
    have Hrq := Lib.hid hrq
    have HM := Lib.hid hM
    clear ih hC hl hden hlead hokx hqk hwfx hrq hM hxc hsx hq0 hq hrk
    go_enter Try.func60, Try.ntmps60
    have hal : Below w.heap.size w (w.alloc (.cells #[.slice (some ⟨b, off, none⟩) n c, .slice B m d, .int .i64 r] 25)) := (Below.refl _ _).alloc (Nat.le_refl _) _
    have x00 : (w.alloc (.cells #[.slice (some ⟨b, off, none⟩) n c, .slice B m d, .int .i64 r] 25)).heap[w.heap.size]? = some (.cells #[.slice (some ⟨b, off, none⟩) n c, .slice B m d, .int .i64 r] 25 (0, 0)) := alloc_at rfl
    go_upto_region 2 with (first
      | (go_at_call 63; go_must (refine (Hfo.out _ hal).mono ?_); rintro e w1 ⟨rfl, hb1⟩))
    have x1 := (hb1.block w.heap.size (by first | omega | (simp; done) | (simp; omega))).trans x00
    replace hb1 := hal.trans (hb1.mono hal.size)
    obtain ⟨y0, y1, y2, yl⟩ := open3 x1
    have e0' := (hb1.cell (p := ⟨b, off + q * 3, none⟩) hbb).trans e0
    have e1' := (hb1.cell (p := ⟨b, off + q * 3 + 1, none⟩) hbb).trans e1
    have e2' := (hb1.cell (p := ⟨b, off + q * 3 + 2, none⟩) hbb).trans e2
    have hbr : b < w1.heap.size := Nat.lt_of_lt_of_le hbb hb1.size
    clear x00 hal x1
    go_upto_region 3 with fail
    refine wp_world' (Φ := fun X => Below w.heap.size w X ∧ X.cell? ⟨w1.heap.size, 0, none⟩ = some (.int .i64 x.kind) ∧ X.cell? ⟨w1.heap.size, 1, none⟩ = some (.string x.name) ∧ X.cell? ⟨w1.heap.size, 2, none⟩ = some (.int .i64 x.n) ∧ X.cell? ⟨w.heap.size, 0, none⟩ = some (.slice (some ⟨b, off, none⟩) n c) ∧ X.cell? ⟨w.heap.size, 1, none⟩ = some (.slice B m d) ∧ X.cell? ⟨w.heap.size, 2, none⟩ = some (.int .i64 r) ∧ w1.heap.size < X.heap.size ∧ w.heap.size < X.heap.size) ⟨by have := hb1.size; exact (by repeat (first | assumption | exact Below.refl _ _ | refine Below.drew ?_ | refine below_drewN ?_ _ | refine Below.alloc ?_ ?_ _ | refine Below.setCell ?_ ?_ _ | (apply Below.size; assumption) | (simp; done) | (simp; omega) | (have hz := hb.size; simp; omega) | (have hz := hb.size; omega) | omega)), (by first | (simp [*]; done) | (go_simp; done) | (go_simp; simp [*]; done)), (by first | (simp [*]; done) | (go_simp; done) | (go_simp; simp [*]; done)), (by first | (simp [*]; done) | (go_simp; done) | (go_simp; simp [*]; done)), (by first | (simp [*]; done) | (go_simp; done) | (go_simp; simp [*]; done)), (by first | (simp [*]; done) | (go_simp; done) | (go_simp; simp [*]; done)), (by first | (simp [*]; done) | (go_simp; done) | (go_simp; simp [*]; done)), by simp, by simp; omega⟩ ?_
    rintro X ⟨hbX, s0, s1, s2, t0, t1, t2, hX1, hX0⟩
    generalize w1.heap.size = g1 at *
    obtain ⟨g0, hg0⟩ : ∃ g0, g0 = w.heap.size := ⟨_, rfl⟩
    try rw [← hg0]
    rw [← hg0] at t0 t1 t2 hX0
    have HbX := Lib.hid hbX
    clear hbX e0' e1' e2' hb1 y0 y1 y2 yl hg0 hbr
    have hwX := HbX.out.size
    by_cases k1 : x.kind = 1
    · have kb1 : (x.kind == 1) = true := by simp [k1]
      have hd := Hden.out
      rw [if_neg (by omega), if_neg (by omega)] at hd
      have hR := GetR.one (l := l) (p := p) (h := h) (c := ⟨1, ⟨#[]⟩, ((q : Nat) : Int)⟩) (by rw [hd]; rfl) hh ⟨by unfold i64; simp, by unfold i64; simp; omega, (by decide : emp.size ≤ maxLen)⟩
      have HR := Lib.hid hR
      clear hd hR k1
      go_wp2
      go_ret
      exact ⟨HbX.out.alloc hwX _, _, _, _, _, rfl, isC_lit9 (n := 1) (alloc_at rfl) rfl rfl (by omega) HR.out.wf, HR.out⟩
    · have kb1 : (x.kind == 1) = false := by simp [k1]
      by_cases k2 : x.kind = 2
      · have kb2 : (x.kind == 2) = true := by simp [k2]
        have hd := Hden.out
        rw [if_neg (by omega), if_pos k2] at hd
        have hR := GetR.one (l := l) (p := p) (h := h) (c := ⟨2, ⟨#[]⟩, x.n⟩) (by rw [hd]; rfl) hh ⟨by unfold i64; simp, Hwfx.out.n, (by decide : emp.size ≤ maxLen)⟩
        have HR := Lib.hid hR
        clear hd hR k1 k2
        go_wp2
        go_ret
        exact ⟨HbX.out.alloc hwX _, _, _, _, _, rfl, isC_lit9 (n := 1) (alloc_at rfl) rfl rfl (by omega) HR.out.wf, HR.out⟩
      · have kb2 : (x.kind == 2) = false := by simp [k2]
        have k4 : x.kind = 4 := by have := Hqk.out; omega
        have ht4 := ok_top Hokx.out k4
        obtain ⟨N, hN⟩ : ∃ N : Nat, x.n = N := ⟨x.n.toNat, by omega⟩
        have hN6 : N ≤ 6 := by omega
        have hd := Hden.out
        rw [if_pos k4] at hd
        have hle := fun i (hi : i < N) => Hlead.out i k4 (by omega)
        rw [hN] at s2 hd
        simp only [Int.toNat_natCast] at hd
        have Hd : Hid (den l p = .f x.name (argDen l q N)) := Lib.hid hd
        have Hle := Lib.hid hle
        have hst := GetL.start (l := l) (q := q) (h := h) (c := ⟨3, x.name, (N : Int)⟩) hh ⟨by unfold i64; simp, by unfold i64; simp; omega, Hwfx.out.name⟩
        have Hst := Lib.hid hst
        clear hd hle hst k1 k2 k4 ht4 hN
        go_wp2
        go_loopw [8, 9] (fun ov iv wr => ∃ (k i c8 : Nat) (out : List C) (A8 : Option Addr), 1 ≤ i ∧ i ≤ N + 1 ∧ iv = .int .i64 i ∧ ov = .slice A8 k c8 ∧ wr.ownsRow X.heap.size 54 3 (.slice A8 k c8) k (flatC out) ∧ Hid (GetL l q h ⟨3, x.name, (N : Int)⟩ (i - 1) out) ∧ Below X.heap.size X wr) (fun _ iv _ => N + 1 - (intOf iv).toNat)
        case atStart => exact ⟨1, 1, 1, _, _, Nat.le_refl _, by omega, rfl, rfl, World.ownsRow_lit X #[.int .i64 3, .string x.name, .int .i64 (N : Int)] 1 (Nat.le_refl _) (by simp [maxLen]) rfl, Hst, (Below.refl _ _).alloc (Nat.le_refl _) _⟩
        case round =>
          clear Hst
          obtain ⟨k, i, c8, out, A8, hi1, hiN, rfl, rfl, hown, hGL, hb⟩ := hrel
          have hlen := hown.1
          rw [flatC_len] at hlen
          have Hk : Hid (out.length = k) := Lib.hid (by omega)
          have hk1 : h + k ≤ 201 := by have := hGL.out.len; have := Hk.out; omega
          have hslO := Sl.own hown (by omega)
          have hco1 := hslO.hcap
          have hco2 := hslO.hmax
          unfold maxLen at hco2
          have u0 := (hb.cell (p := ⟨g0, 0, none⟩) hX0).trans t0
          have u1 := (hb.cell (p := ⟨g0, 1, none⟩) hX0).trans t1
          have u2 := (hb.cell (p := ⟨g0, 2, none⟩) hX0).trans t2
          have v2 := (hb.cell (p := ⟨g1, 2, none⟩) hX1).trans s2
          have v1 := (hb.cell (p := ⟨g1, 1, none⟩) hX1).trans s1
          have v0 := (hb.cell (p := ⟨g1, 0, none⟩) hX1).trans s0
          have hszb := hb.size
          have Hown := Lib.hid hown
          clear hown hslO hlen
          by_cases hin : i ≤ N
          · have hin' : decide (i ≤ N) = true := by simp; exact hin
            by_cases h200 : h + k ≤ 200
            · have hd2 : decide ((h : Int) + (k : Int) ≤ 200) = true := by simp; omega
              have hsumq : IntKind.i64.wrap ((q : Int) + (i : Int)) = ((q + i : Nat) : Int) := by rw [IntWalk.i64_in _ (by omega)]; omega
              have hsumh : IntKind.i64.wrap ((h : Int) + (k : Int)) = ((h + k : Nat) : Int) := by rw [IntWalk.i64_in _ (by omega)]; omega
              obtain ⟨f1, f2⟩ := Hle.out (i - 1) (by omega)
              rw [show q + 1 + (i - 1) = q + i by omega] at f1 f2
              have hih := Ih.out (q + i) (h + k) wr (by have := Hrq.out; have := HM.out; omega) (by have := Hl.out; omega) h200 (HC.out.below (HbX.out.trans (hb.mono hwX)))
              have Hih := Lib.hid hih
              clear f1 f2 hih
              go_wp2_with (first
                | (go_at_call 60; go_must (refine Hih.out.mono ?_); rintro e w5 hret; unfold RetgetR at hret; obtain ⟨hb5, A5, n5, c5, t5, rfl, hC5, hG5⟩ := hret; have hn5 : n5 ≤ 201 := (by have h1 := hG5.len; have h2 := hC5.len; omega); have Hb5 := Lib.hid hb5; have HC5 := Lib.hid hC5; have HG5 := Lib.hid hG5; have hszb5 := hb5.size; clear hb5 hC5 hG5)
                | (at_builtin; go_must (refine wpList_append_sl rfl (.tmp 50) (.tmp 59) 26 rfl X.heap.size 54 Try.underlying26 infoC rfl (by omega) rfl (own_below Hown.out Hb5.out) rfl HC5.out.sl (oneC t5) (by omega) (by omega) (by omega) ?_); intro A9 c9 w9 hown9 hb9 _ _; have Hown9 := Lib.hid hown9; have Hb9 := Lib.hid hb9; clear hown9 hb9))
              have hG9 := GetL.step hGL.out (by rw [Hk.out]; exact h200) (by rw [Hk.out, show q + 1 + (i - 1) = q + i by omega]; exact HG5.out)
              have HG9 := Lib.hid hG9
              have hlen5 := HC5.out.len
              clear hG9
              go_roundw
              case rel => exact ⟨k + n5, i + 1, c9, out ++ t5, A9, by omega, by omega, by go_num, rfl, by rw [flatC_append]; exact Hown9.out, by rw [show i + 1 - 1 = i - 1 + 1 by omega]; exact HG9, hb.trans ((Hb5.out.mono hszb).trans Hb9.out)⟩
              case measure => simp [intOf]; omega
            · have hd2 : decide ((h : Int) + (k : Int) ≤ 200) = false := by simp; omega
              have hR := hGL.out.done Hd.out (by omega) (.inr (by rw [Hk.out]; omega))
              have HR := Lib.hid hR
              clear hR
              go_wp2
              go_ret
              exact ⟨HbX.out.trans (hb.mono hwX), A8, k, c8, out, rfl, ⟨Sl.own Hown.out (by omega), HR.out.wf⟩, HR.out⟩
          · have hin' : decide (i ≤ N) = false := by simp; omega
            have hiN1 : i - 1 = N := by omega
            have hR := hGL.out.done Hd.out (by omega) (.inl hiN1)
            have HR := Lib.hid hR
            clear hR hiN1
            go_wp2
            go_ret
            exact ⟨HbX.out.trans (hb.mono hwX), A8, k, c8, out, rfl, ⟨Sl.own Hown.out (by omega), HR.out.wf⟩, HR.out⟩
/-- got, as the document does it -/
theorem qGet_any (A B : Option Addr) (n c m d : Nat) (r : Int) (l : List C) (x : Int) (w : World) (h : IsC w A n c l) (hg : Good l) (hn : n ≤ 5000) :
    Calls Try.prog 22 #[.agg #[.slice A n c, .slice B m d, .int .i64 r], .int .i64 x] w (RetGet w (getZ l x)) := by
  have hl := h.len
  have hqi := fun wx => qIs_any A B n c m d r x wx (by omega)
  have Hqi := Lib.hid hqi
  have hal : Below w.heap.size w (w.alloc (.cells #[.slice A n c, .slice B m d, .int .i64 r] 25)) := (Below.refl _ _).alloc (Nat.le_refl _) _
  have x00 : (w.alloc (.cells #[.slice A n c, .slice B m d, .int .i64 r] 25)).heap[w.heap.size]? = some (.cells #[.slice A n c, .slice B m d, .int .i64 r] 25 (0, 0)) := alloc_at rfl
  have Hal := Lib.hid hal
  have X00 := Lib.hid x00
  have HC := Lib.hid h
  clear hal x00 hqi h
  unfold getZ
  by_cases hx : 0 ≤ x ∧ x < (l.length : Int)
  · rw [if_pos hx]
    obtain ⟨p, rfl⟩ : ∃ p : Nat, x = p := ⟨x.toNat, by omega⟩
    simp only [Int.toNat_natCast]
    have hp : p < l.length := by omega
    have hb : (decide ((0 : Int) ≤ (p : Int)) && decide ((p : Int) < (n : Int))) = true := by simp; omega
    rw [hb] at Hqi
    obtain ⟨rk, hrk⟩ := hg.ac
    have hget := fun wx (hb : Below w.heap.size w wx) => qget_any A B n c m d r l hg rk hrk hn (rk p + 1) p 0 wx (by omega) (by omega) (by omega) (HC.out.below hb)
    have Hget := Lib.hid hget
    have hend := fun t (h : GetR l p 0 t) => h.end_ hg hp
    have Hend := Lib.hid hend
    generalize getF l p = G at *
    clear hx hb hrk hget hend hl
    go_enter Try.func22, Try.ntmps22
    obtain ⟨y0, y1, y2, yl⟩ := open3 X00.out
    go_upto_region 3 with (first
      | (go_at_call 32; go_must (refine (Hqi.out _).mono ?_); rintro e w1 ⟨rfl, hb1⟩))
    have x1 := (hb1.block w.heap.size yl).trans X00.out
    replace hb1 := Hal.out.trans (hb1.mono Hal.out.size)
    clear y0 y1 y2 yl Hqi
    obtain ⟨y0, y1, y2, yl⟩ := open3 x1
    have Hb1 := Lib.hid hb1
    have hsz1 := hb1.size
    clear x1 hb1
    go_upto_region 4 with (first
      | (go_at_call 60; go_must (refine (Hget.out _ Hb1.out).mono ?_); rintro e w2 hret; unfold RetgetR at hret; obtain ⟨hb2, A5, n5, c5, t, rfl, hC5, hG5⟩ := hret; have HC5 := Lib.hid hC5; have HG5 := Lib.hid hG5; have Hb2 := Lib.hid hb2; clear hC5 hG5 hb2))
    have hn5 : n5 ≤ 1000 := by have h1 := HG5.out.len; have h2 := HC5.out.len; omega
    have Hri := Lib.hid (rRight_any A5 n5 c5 t w2 HC5.out (by omega))
    have Hbw := Lib.hid (Hb1.out.trans (Hb2.out.mono hsz1))
    clear y0 y1 y2 yl Hget
    rcases Hend.out t HG5.out with ⟨hr, hG⟩ | ⟨hr, hG⟩
    · rw [hr] at Hri
      subst hG
      clear hr Hend
      go_wp2_with (first
        | (go_at_call 17; go_must (refine Hri.out.mono ?_); rintro e w3 ⟨rfl, hb3⟩))
      refine bodyPost_ret (v := .tuple #[.slice A5 n5 c5, .bool true]) (by simp [results, Try.results22, go_sem, *]) rfl ?_
      exact ⟨Hbw.out.trans (hb3.mono Hbw.out.size), A5, n5, c5, rfl, HC5.out.below hb3⟩
    · rw [hr] at Hri
      subst hG
      clear hr Hend
      go_wp2_with (first
        | (go_at_call 17; go_must (refine Hri.out.mono ?_); rintro e w3 ⟨rfl, hb3⟩))
      refine bodyPost_ret (v := .tuple #[.slice none 0 0, .bool false]) (by simp [results, Try.results22, go_sem, *]) rfl ?_
      exact ⟨Hbw.out.trans (hb3.mono Hbw.out.size), rfl⟩
  · rw [if_neg hx]
    have hb : (decide (0 ≤ x) && decide (x < (n : Int))) = false := by simp; omega
    rw [hb] at Hqi
    clear hx hb hl
    go_enter Try.func22, Try.ntmps22
    obtain ⟨y0, y1, y2, yl⟩ := open3 X00.out
    go_wp2_with (first
      | (go_at_call 32; go_must (refine (Hqi.out _).mono ?_); rintro e w1 ⟨rfl, hb1⟩))
    refine bodyPost_ret (v := .tuple #[.slice none 0 0, .bool false]) (by simp [results, Try.results22, go_sem, *]) rfl ?_
    exact ⟨Hal.out.trans (hb1.mono Hal.out.size), rfl⟩
end Go.Proofs.Ytlndjooddkjnoaa
