/- The walk of the document's Unify. -/
import Derived.Test.YtlndjooddkjnoaaHQp
import Derived.Test.YtlndjooddkjnoaaH6
import Derived.Test.YtlndjooddkjnoaaHV3
set_option linter.unusedVariables false
set_option linter.unusedSimpArgs false
namespace Go.Proofs.Ytlndjooddkjnoaa
open Go.RowKit

theorem cut2 {w : World} {gg m c' : Nat} {p : Nat × Nat} {R : List (Nat × Nat)} (h : Sl w 2 (some ⟨gg, 0, none⟩) (m + 1) c' (pairsV (p :: R))) :
    (c' = 1 → m = 0 ∧ R = []) ∧ (c' ≠ 1 → Sl w 2 (some ⟨gg, 2, none⟩) m (c' - 1) (pairsV R)) := by
  have hcap := h.hcap
  have hl := h.len
  rw [pairsV_len] at hl
  simp at hl
  refine ⟨fun hc => ?_, fun hc => ?_⟩
  · have : m = 0 := by omega
    subst this
    exact ⟨rfl, List.eq_nil_of_length_eq_zero (by omega)⟩
  · have := h.cut (lo := 1) (hi := m + 1) (by omega) (Nat.le_refl _) (by omega)
    rw [if_neg hc] at this
    have e : (pairsV (p :: R)).drop (1 * 2) = pairsV R := by simp [pairsV]
    rw [e, List.take_of_length_le (by rw [pairsV_len]; omega)] at this
    simpa [Addr.add] using this
theorem pairs_one : ∀ (R : List (Nat × Nat)), ∀ u ∈ pairsV R, u.oneCell' = true
  | [], u, hu => by simp [pairsV] at hu
  | p :: R, u, hu => by
    rw [pairsV_cons] at hu
    rcases List.mem_append.1 hu with hu | hu
    · simp at hu
      rcases hu with rfl | rfl <;> rfl
    · exact pairs_one R u hu
def RetUniQ (w : World) (A B : Option Addr) (n c m d : Nat) (r : Int) (o : Option (List C × List Int)) (e : Ending) (w' : World) : Prop := Below w.heap.size w w' ∧ match o with
  | some u => ∃ A' n' c' B' m' d', e = .returned (.tuple #[.agg #[.slice A' n' c', .slice B' m' d', .int .i64 r], .bool true]) ∧ IsC w' A' n' c' u.1 ∧ IsI w' B' m' d' u.2
  | none => e = .returned (.tuple #[.agg #[.slice A n c, .slice B m d, .int .i64 r], .bool false])
set_option maxRecDepth 100000 in
set_option maxHeartbeats 8000000 in
theorem qUnify_in (A B : Option Addr) (n c m d : Nat) (r : Int) (l : List C) (tr : List Int) (a b : Nat) (w : World) (h : IsC w A n c l) (hT : IsI w B m d tr) (hg : Good l) (ht : TrOk l tr) (hn : n ≤ 5000) (hm : m ≤ 100000) (ha : a < n) (hb : b < n) :
    Calls Try.prog 24 #[.agg #[.slice A n c, .slice B m d, .int .i64 r], .int .i64 a, .int .i64 b] w (RetUniQ w A B n c m d r (uniF l tr a b)) := by
  have hl := h.len
  have htl := hT.len
  generalize hU : uniF l tr a b = U
  have HU := Lib.hid hU
  clear hU
  have Hl := Lib.hid hl
  have HC := Lib.hid h
  have HT := Lib.hid hT
  have Hg := Lib.hid hg
  have Ht := Lib.hid ht
  have hwa := fun wz => qIs_any A B n c m d r a wz (by omega)
  have hwb := fun wz => qIs_any A B n c m d r b wz (by omega)
  have hwae : (decide (0 ≤ (a : Int)) && decide ((a : Int) < (n : Int))) = true := by simp; omega
  have hwbe : (decide (0 ≤ (b : Int)) && decide ((b : Int) < (n : Int))) = true := by simp; omega
  rw [hwae] at hwa
  rw [hwbe] at hwb
  have Hwa := Lib.hid hwa
  have Hwb := Lib.hid hwb
  have Hba := Lib.hid (show a < n ∧ b < n from ⟨ha, hb⟩)
  clear hl htl h hT hg ht hwa hwb hwae hwbe ha hb
  go_enter Try.func24, Try.ntmps24
  go_upto_region 1 with fail
  refine wp_world' (Φ := fun X => Pre3 w X A B n c m d r) ⟨((Below.refl _ _).alloc (Nat.le_refl _) _).alloc (by first | omega | (simp; done) | (simp; omega)) _, (alloc_past (by first | omega | (simp; done) | (simp; omega))).trans (alloc_at rfl), alloc_at (by first | omega | (simp; done) | (simp; omega)), (by first | omega | (simp; done) | (simp; omega))⟩ ?_
  intro X hpX
  have HpX := Lib.hid hpX
  obtain ⟨y0, y1, y2⟩ := hpX.held
  have yl := block_lt hpX.x0
  clear hpX
  go_upto_region 3 with (first
    | (go_at_call 32; have hfirst := y0; go_must (refine (Hwa.out _).mono ?_); rintro e w1 ⟨rfl, hb1⟩; have HpY := Lib.hid (HpX.out.below hb1); clear y0 y1 y2 yl hfirst hb1; obtain ⟨z0, z1, z2⟩ := HpY.out.held; have zl := block_lt HpY.out.x0)
    | (go_at_call 32; go_must (refine (Hwb.out _).mono ?_); rintro e w2 ⟨rfl, hb2⟩; have HpZ := Lib.hid (HpY.out.below hb2); clear z0 z1 z2 zl hb2; obtain ⟨u0, u1, u2⟩ := HpZ.out.held; have ul := block_lt HpZ.out.x0))
  clear HpX HpY Hwa Hwb
  have hsz2 := HpZ.out.size
  go_wp2
  refine wp_world' (Φ := fun X => QI w X (w2.heap.size + 2) A B n c m d r U ⟨l, tr, [(a, b)], []⟩ (some ⟨w2.heap.size, 0, none⟩) 1 1 (some ⟨w2.heap.size + 1, 0, none⟩) 0 0 (7 * (n * n) + 1)) ?_ ?_
  · show QI w (((w2.alloc (.cells #[.int .i64 (a : Int), .int .i64 (b : Int)] 89)).alloc (.cells #[] 89)).alloc (.cells #[.slice A n c, .slice B m d, .int .i64 r] 25)) (w2.heap.size + 2) A B n c m d r U ⟨l, tr, [(a, b)], []⟩ (some ⟨w2.heap.size, 0, none⟩) 1 1 (some ⟨w2.heap.size + 1, 0, none⟩) 0 0 (7 * (n * n) + 1)
    have a1 : Below w2.heap.size w2 (w2.alloc (.cells #[.int .i64 (a : Int), .int .i64 (b : Int)] 89)) := (Below.refl _ _).alloc (Nat.le_refl _) _
    have a2 : Below (w2.alloc (.cells #[.int .i64 (a : Int), .int .i64 (b : Int)] 89)).heap.size (w2.alloc (.cells #[.int .i64 (a : Int), .int .i64 (b : Int)] 89)) ((w2.alloc (.cells #[.int .i64 (a : Int), .int .i64 (b : Int)] 89)).alloc (.cells #[] 89)) := (Below.refl _ _).alloc (Nat.le_refl _) _
    have a3 : Below ((w2.alloc (.cells #[.int .i64 (a : Int), .int .i64 (b : Int)] 89)).alloc (.cells #[] 89)).heap.size ((w2.alloc (.cells #[.int .i64 (a : Int), .int .i64 (b : Int)] 89)).alloc (.cells #[] 89)) (((w2.alloc (.cells #[.int .i64 (a : Int), .int .i64 (b : Int)] 89)).alloc (.cells #[] 89)).alloc (.cells #[.slice A n c, .slice B m d, .int .i64 r] 25)) := (Below.refl _ _).alloc (Nat.le_refl _) _
    have hlow := HpZ.out.low
    have hp3 := ((HpZ.out.below a1).below a2).below a3
    refine ⟨⟨hp3, by omega, A, c, B, m, d, alloc_at (by simp), HC.out.below hp3.low, HT.out.below hp3.low, fun hn0 x hx => .inl ?_, fun hm0 x hx => .inl ?_⟩, ?_, ?_, start_ok Hg.out Ht.out (by rw [Hl.out]; exact Hba.out.1) (by rw [Hl.out]; exact Hba.out.2), Hl.out, ⟨fuelU l.length, start_mu l tr a b, HU.out⟩, by simp [US.mu, Hl.out], by simp [US.mu, Hl.out]⟩
    · obtain ⟨bq, off, hA, hlt, _⟩ := HC.out.sl.cells (by omega)
      rw [hx] at hA
      cases hA
      exact hlt
    · obtain ⟨bq, off, hA, hlt, _⟩ := HT.out.sl.cells (by omega)
      rw [hx] at hA
      cases hA
      exact hlt
    · have := World.ownsRow_lit w2 (e := 89) (size := 2) #[.int .i64 (a : Int), .int .i64 (b : Int)] 1 (Nat.le_refl _) (by simp [maxLen]) rfl
      exact own_lower (own_below (own_below this a2) a3) (by omega)
    · have := World.ownsRow_lit (w2.alloc (.cells #[.int .i64 (a : Int), .int .i64 (b : Int)] 89)) (e := 89) (size := 2) #[] 0 (Nat.le_refl _) (by simp [maxLen]) rfl
      have h2 := own_below this a3
      have h3 := own_lower (base' := w.heap.size + 2) h2 (by simp; omega)
      simpa [pairsV] using h3
  · intro X hQ
    have HQ := Lib.hid hQ
    have hgb0 : w.heap.size + 2 ≤ w2.heap.size + 2 := by omega
    clear hQ u0 u1 u2 ul HpZ hsz2
    generalize w2.heap.size + 2 = gb at *
    go_loopg [9, 10] (7 * (n * n) + 1) (fun kk rv sv wr => ∃ (s : US) (mr cr ms cs : Nat) (Ar As : Option Addr), rv = .slice Ar mr cr ∧ sv = .slice As ms cs ∧ QI w wr gb A B n c m d r U s Ar mr cr As ms cs kk)
    case atStart => exact ⟨_, _, _, _, _, _, _, rfl, rfl, HQ.out⟩
    case round =>
      clear HQ
      obtain ⟨s, mr, cr, ms, cs, Ar, As, rfl, rfl, hI⟩ := hrel
      have hlen := hI.row.1
      rw [pairsV_len] at hlen
      have hmrl : s.row.length = mr := by omega
      cases hrow : s.row with
      | nil =>
        obtain rfl : mr = 0 := by rw [hrow] at hmrl; simp at hmrl; omega
        obtain ⟨k0, hk0, hrun⟩ := hI.run
        rw [uRun_zero hrow (by omega)] at hrun
        simp only [Option.map_some] at hrun
        subst hrun
        obtain ⟨Ag, cg, Bg, mg, dg, p1, p2, p3, p4, p5⟩ := hI.hp.gb
        obtain ⟨y0, y1, y2, yl⟩ := open3 p1
        obtain ⟨z0, z1, z2, zl⟩ := open3 hI.hp.pre.x1
        have zf0 := frozen_of hI.hp.pre.x1 0
        have zf1 := frozen_of hI.hp.pre.x1 1
        have zf2 := frozen_of hI.hp.pre.x1 2
        have hkF : Kq (w.heap.size + 1) wr (((wr.setCell ⟨w.heap.size + 1, 0, none⟩ (.slice Ag n cg)).setCell ⟨w.heap.size + 1, 1, none⟩ (.slice Bg mg dg)).setCell ⟨w.heap.size + 1, 2, none⟩ (.int .i64 r)) := ((Kq.set wr 0 _).trans (Kq.set _ 1 _)).trans (Kq.set _ 2 _)
        have hIC := p2.kq9 hkF (p4.ne (by omega) (by decide) hI.hp.pre.x1)
        have hII := p3.kqn hkF (p5.ne (by omega) (by decide) hI.hp.pre.x1)
        have hbF := hI.hp.pre.low.trans (hkF.bel.mono (by omega))
        have HIC := Lib.hid hIC
        have HII := Lib.hid hII
        have HbF := Lib.hid hbF
        have q0 : (((wr.setCell ⟨w.heap.size + 1, 0, none⟩ (.slice Ag n cg)).setCell ⟨w.heap.size + 1, 1, none⟩ (.slice Bg mg dg)).setCell ⟨w.heap.size + 1, 2, none⟩ (.int .i64 r)).cell? ⟨w.heap.size + 1, 0, none⟩ = some (.slice Ag n cg) := (by first | (simp [*]; done) | (go_simp; done) | (go_simp; simp [*]; done))
        have q1 : (((wr.setCell ⟨w.heap.size + 1, 0, none⟩ (.slice Ag n cg)).setCell ⟨w.heap.size + 1, 1, none⟩ (.slice Bg mg dg)).setCell ⟨w.heap.size + 1, 2, none⟩ (.int .i64 r)).cell? ⟨w.heap.size + 1, 1, none⟩ = some (.slice Bg mg dg) := (by first | (simp [*]; done) | (go_simp; done) | (go_simp; simp [*]; done))
        have q2 : (((wr.setCell ⟨w.heap.size + 1, 0, none⟩ (.slice Ag n cg)).setCell ⟨w.heap.size + 1, 1, none⟩ (.slice Bg mg dg)).setCell ⟨w.heap.size + 1, 2, none⟩ (.int .i64 r)).cell? ⟨w.heap.size + 1, 2, none⟩ = some (.int .i64 r) := (by first | (simp [*]; done) | (go_simp; done) | (go_simp; simp [*]; done))
        clear hIC hII hbF hkF p1 p2 p3 p4 p5 hI hlen hmrl hk0 hrow
        go_wp2
        generalize (((wr.setCell ⟨w.heap.size + 1, 0, none⟩ (.slice Ag n cg)).setCell ⟨w.heap.size + 1, 1, none⟩ (.slice Bg mg dg)).setCell ⟨w.heap.size + 1, 2, none⟩ (.int .i64 r)) = F at *
        refine bodyPost_ret (v := .tuple #[.agg #[.slice Ag n cg, .slice Bg mg dg, .int .i64 r], .bool true]) (by simp [results, Try.results24, go_sem, *]) rfl ?_
        exact ⟨HbF.out, Ag, n, cg, Bg, mg, dg, rfl, HIC.out, HII.out⟩
      | cons p0 row =>
        obtain ⟨a', b'⟩ := p0
        obtain ⟨k, rfl⟩ : ∃ k, mr = k + 1 := ⟨row.length, by rw [hrow] at hmrl; simpa using hmrl.symm⟩
        have hkR : row.length = k := by rw [hrow] at hmrl; simpa using hmrl
        obtain ⟨gg, rfl⟩ : ∃ gg, Ar = some ⟨gg, 0, none⟩ := by
          obtain ⟨g, cap', hv, _⟩ := hI.row.form (by omega)
          injection hv with hv
          exact ⟨g, hv⟩
        have hrowO := hI.row
        rw [hrow] at hrowO
        have hl0 := (hrowO.cellAt 0 (by omega)).trans (show (pairsV ((a', b') :: row))[0]? = some (.int .i64 (a' : Int)) by simp [pairsV])
        have hl1 := (hrowO.cellAt 1 (by omega)).trans (show (pairsV ((a', b') :: row))[1]? = some (.int .i64 (b' : Int)) by simp [pairsV])
        obtain ⟨hg1, hg2⟩ := hrowO.lt gg rfl
        have hsl := Sl.own hrowO (by omega)
        have hcc1 := hsl.hcap
        have hcc2 := hsl.hmax
        unfold maxLen at hcc2
        have Hsl := Lib.hid hsl
        have hkb : k ≤ 1000000000 := by
          have h1 := hI.top
          have h3 : n * n ≤ 5000 * 5000 := Nat.mul_le_mul hn hn
          have h2 := congrArg List.length hrow
          simp only [US.mu, List.length_cons] at h1 h2
          omega
        obtain ⟨hla, hlb⟩ := hI.ok.row (a', b') (by rw [hrow]; simp)
        simp only at hla hlb
        obtain ⟨Ag, cg, Bg, mg, dg, p1, p2, p3, p4, p5⟩ := hI.hp.gb
        obtain ⟨y0, y1, y2, yl⟩ := open3 p1
        have hln := hI.len
        have Hfa := Lib.hid (fun wz (hb : Below wr.heap.size wr wz) => qFollow_any Ag Bg n cg mg dg r s.l a' wz (p2.below hb) hI.ok.good (by omega) (by omega))
        have Hfb := Lib.hid (fun wz (hb : Below wr.heap.size wr wz) => qFollow_any Ag Bg n cg mg dg r s.l b' wz (p2.below hb) hI.ok.good (by omega) (by omega))
        have HI := Lib.hid hI
        have Hrow := Lib.hid hrow
        have HkR := Lib.hid hkR
        have hx := hI.ok.good.fol_end hla
        have hy := hI.ok.good.fol_end hlb
        have hx3 := hI.ok.good.fol_kind hla
        have hy3 := hI.ok.good.fol_kind hlb
        have hstep := fun s' (h : uOne s row (fol s.l a') (fol s.l b') = some s') => uOne_ok hI.ok hrow h
        have hrun := uStep hrow hI.run
        have Hstep := Lib.hid hstep
        have Hrun := Lib.hid hrun
        have Hx := Lib.hid hx
        have Hy := Lib.hid hy
        have Hx3 := Lib.hid hx3
        have Hy3 := Lib.hid hy3
        have Hln := Lib.hid hln
        have hS : ∀ w', Below wr.heap.size wr w' → w'.cell? ⟨gb, 0, none⟩ = some (.slice Ag n cg) ∧ w'.cell? ⟨gb, 1, none⟩ = some (.slice Bg mg dg) ∧ w'.cell? ⟨gb, 2, none⟩ = some (.int .i64 r) ∧ w'.cell? ⟨gg, 0, none⟩ = some (.int .i64 (a' : Int)) ∧ w'.cell? ⟨gg, 1, none⟩ = some (.int .i64 (b' : Int)) := fun w' hb => ⟨(hb.cell (p := ⟨gb, 0, none⟩) yl).trans y0, (hb.cell (p := ⟨gb, 1, none⟩) yl).trans y1, (hb.cell (p := ⟨gb, 2, none⟩) yl).trans y2, (hb.cell (p := ⟨gg, 0, none⟩) hg2).trans hl0, (hb.cell (p := ⟨gg, 1, none⟩) hg2).trans hl1⟩
        clear hI hrow hkR hx hy hx3 hy3 hstep hrun hln hlen hmrl hrowO hsl p1 p2 p3 p4 p5 hla hlb hl0 hl1 y0 y1 y2
        have hk0z : (0 : Int) < ((k + 1 : Nat) : Int) := by omega
        go_upto_region 5 with fail
        go_cut [11, 12] from 39 to 50 (fun xv yv wx => xv = .int .i64 (fol s.l a' : Nat) ∧ yv = .int .i64 (fol s.l b' : Nat) ∧ Below wr.heap.size wr wx)
        case first =>
          refine wp_region_held_drew (S := fun w' => w'.cell? ⟨gb, 0, none⟩ = some (.slice Ag n cg) ∧ w'.cell? ⟨gb, 1, none⟩ = some (.slice Bg mg dg) ∧ w'.cell? ⟨gb, 2, none⟩ = some (.int .i64 r) ∧ w'.cell? ⟨gg, 0, none⟩ = some (.int .i64 (a' : Int)) ∧ w'.cell? ⟨gg, 1, none⟩ = some (.int .i64 (b' : Int))) (by kernel_rfl) ?gs5 ?gr5
          case gs5 => exact hS _ (Below.refl _ _).drew
          case gr5 =>
            intro hHeld
            have HS := Lib.hid hS
            have HV : Hid (Below wr.heap.size wr wr.drew) := Lib.hid ((Below.refl _ _).drew)
            clear hS
            generalize wr.drew = V at *

            refine takeH 0 hHeld ?_
            try simp only [Act.put, List.setIfInBounds_toArray, List.set_cons_zero, List.set_cons_succ]
            refine takeH 1 hHeld ?_
            try simp only [Act.put, List.setIfInBounds_toArray, List.set_cons_zero, List.set_cons_succ]
            refine takeH 2 hHeld ?_
            try simp only [Act.put, List.setIfInBounds_toArray, List.set_cons_zero, List.set_cons_succ]
            refine takeH 3 hHeld ?_
            try simp only [Act.put, List.setIfInBounds_toArray, List.set_cons_zero, List.set_cons_succ]
            refine takeH 4 hHeld ?_
            try simp only [Act.put, List.setIfInBounds_toArray, List.set_cons_zero, List.set_cons_succ]
            refine takeH 6 hHeld ?_
            try simp only [Act.put, List.setIfInBounds_toArray, List.set_cons_zero, List.set_cons_succ]
            refine takeH 7 hHeld ?_
            try simp only [Act.put, List.setIfInBounds_toArray, List.set_cons_zero, List.set_cons_succ]
            refine takeH 8 hHeld ?_
            try simp only [Act.put, List.setIfInBounds_toArray, List.set_cons_zero, List.set_cons_succ]
            refine takeH 9 hHeld ?_
            try simp only [Act.put, List.setIfInBounds_toArray, List.set_cons_zero, List.set_cons_succ]
            refine takeH 10 hHeld ?_
            try simp only [Act.put, List.setIfInBounds_toArray, List.set_cons_zero, List.set_cons_succ]
            refine held_one (i := 5) (o := ?oi5u11) (by kernel_rfl) ?hi5u11 (fun K hK => ?rest5u11)
            case hi5u11 => (simp only [List.getElem?_toArray, List.getElem?_cons_succ, List.getElem?_cons_zero]; exact rfl)
            go_simp
            go_at_call 63
            refine (Hfa.out _ HV.out).mono ?_
            rintro e w4 ⟨rfl, hb4⟩
            have H4 := Lib.hid (HV.out.trans (hb4.mono HV.out.size))
            try go_simp
            have hHeld8 : (fun w' : World => w'.cell? ⟨gb, 0, none⟩ = some (.slice Ag n cg) ∧ w'.cell? ⟨gb, 1, none⟩ = some (.slice Bg mg dg) ∧ w'.cell? ⟨gb, 2, none⟩ = some (.int .i64 r) ∧ w'.cell? ⟨gg, 0, none⟩ = some (.int .i64 (a' : Int)) ∧ w'.cell? ⟨gg, 1, none⟩ = some (.int .i64 (b' : Int))) w4 := HS.out _ H4.out
            refine hK _ _ hHeld8 ?_
            clear hK K hHeld
            have hHeld := hHeld8
            clear hHeld8
            try simp only [Act.put, List.setIfInBounds_toArray, List.set_cons_zero, List.set_cons_succ]
            refine held_one (i := 11) (o := ?oi11u12) (by kernel_rfl) ?hi11u12 (fun K hK => ?rest11u12)
            case hi11u12 => (simp only [List.getElem?_toArray, List.getElem?_cons_succ, List.getElem?_cons_zero]; exact rfl)
            go_simp
            go_at_call 63
            refine (Hfb.out _ H4.out).mono ?_
            rintro e w5 ⟨rfl, hb5⟩
            have H5 := Lib.hid (H4.out.trans (hb5.mono H4.out.size))
            try go_simp
            have hHeld8 : (fun w' : World => w'.cell? ⟨gb, 0, none⟩ = some (.slice Ag n cg) ∧ w'.cell? ⟨gb, 1, none⟩ = some (.slice Bg mg dg) ∧ w'.cell? ⟨gb, 2, none⟩ = some (.int .i64 r) ∧ w'.cell? ⟨gg, 0, none⟩ = some (.int .i64 (a' : Int)) ∧ w'.cell? ⟨gg, 1, none⟩ = some (.int .i64 (b' : Int))) w5 := HS.out _ H5.out
            refine hK _ _ hHeld8 ?_
            clear hK K hHeld
            have hHeld := hHeld8
            clear hHeld8
            try simp only [Act.put, List.setIfInBounds_toArray, List.set_cons_zero, List.set_cons_succ]
            refine takeH 12 hHeld ?_
            try simp only [Act.put, List.setIfInBounds_toArray, List.set_cons_zero, List.set_cons_succ]
            refine takeH 13 hHeld ?_
            try simp only [Act.put, List.setIfInBounds_toArray, List.set_cons_zero, List.set_cons_succ]
            refine wpAnyH_done (by kernel_rfl) ?_ _
            clear hHeld
            go_wp2_with fail
            go_meet
            exact ⟨rfl, rfl, H5.out⟩
        case rest =>
          obtain ⟨rfl, rfl, hbV⟩ := hcut
          have HIV := Lib.hid (HI.out.below hbV)
          have Hsl2 := Lib.hid (Hsl.out.below hbV)
          have hsV := hbV.size
          clear hS Hfa Hfb hbV HI Hsl
          generalize fol s.l a' = x at *
          generalize fol s.l b' = y at *
          generalize wc = Y at *
          have hwsV := HIV.out.hp.pre.size
          obtain ⟨hcut1, hcut2⟩ := cut2 (p := (a', b')) (R := row) (by have := Hsl2.out; exact this)
          have Hcut1 := Lib.hid hcut1
          have Hcut2 := Lib.hid hcut2
          clear hcut1 hcut2
          go_upto_region 6 with fail
          go_cut [9] from 51 to 54 (fun rv wx => ∃ A9 c9, rv = .slice A9 k c9 ∧ wx.ownsRow Y.heap.size 89 2 (.slice A9 k c9) k (pairsV row) ∧ Below Y.heap.size Y wx)
          case first =>
            by_cases hc1 : cr = 1
            · obtain ⟨hk0, hr0⟩ := Hcut1.out hc1
              subst hk0
              subst hr0
              subst hc1
              have hsl0 : Sl (Y.alloc (.cells #[] 89)) 2 (some ⟨gg, 0, none⟩) 0 0 (pairsV []) := ⟨rfl, Nat.le_refl _, by simp [maxLen], fun h => absurd h (by omega)⟩
              have Hsl0 := Lib.hid hsl0
              clear hsl0
              go_wp2_with (first
                | (at_builtin; go_must (refine wpList_append_sl rfl (.tmp 51) (.tmp 53) 90 rfl Y.heap.size 89 Try.underlying90 infoPair rfl (by omega) rfl (World.ownsRow_lit Y #[] 0 (Nat.le_refl _) (by simp [maxLen]) rfl) rfl Hsl0.out (by intro u hu; simp [pairsV] at hu) (by omega) (by omega) (by simp) ?_); intro A9 c9 w9 hown9 hb9 _ _))
              go_meet
              exact ⟨A9, c9, by simp, by simpa using hown9, ((Below.refl _ _).alloc (Nat.le_refl _) _).trans hb9⟩
            · have hslc := (Hcut2.out hc1).below ((Below.refl Y.heap.size Y).alloc (Nat.le_refl _) (.cells #[] 89))
              have Hslc := Lib.hid hslc
              clear hslc
              go_wp2_with (first
                | (at_builtin; go_must (refine wpList_append_sl rfl (.tmp 51) (.tmp 53) 90 rfl Y.heap.size 89 Try.underlying90 infoPair rfl (by omega) rfl (World.ownsRow_lit Y #[] 0 (Nat.le_refl _) (by simp [maxLen]) rfl) rfl Hslc.out (pairs_one row) (by omega) (by omega) (by simp) ?_); intro A9 c9 w9 hown9 hb9 _ _))
              go_meet
              exact ⟨A9, c9, by simp, by simpa using hown9, ((Below.refl _ _).alloc (Nat.le_refl _) _).trans hb9⟩
          case rest =>
            obtain ⟨A9, c9, rfl, hown9, hb9⟩ := hcut
            have HIX := Lib.hid (HIV.out.below hb9)
            have hsX := hb9.size
            have Hslt := Lib.hid (fun a (ha : As = some a) => (Own0.lt HIV.out.seen a ha).2)
            have Hown9 := Lib.hid hown9
            clear Hsl2 Hcut1 Hcut2 hb9 HIV hown9
            generalize wc = X at *
            have hms : ms ≤ 100000000 := by
              have h1 := pairs_le HIX.out.ok.nd HIX.out.ok.seen
              have h3 : n * n ≤ 5000 * 5000 := Nat.mul_le_mul hn hn
              have h2 := HIX.out.seen.1
              rw [pairsV_len, List.length_reverse] at h2
              rw [HIX.out.len] at h1
              omega
            go_upto_region 7 with fail
            go_cut [64] from 55 to 64 (fun v wx => v = .bool (decide (x = y ∨ (x, y) ∈ s.seen)) ∧ Below X.heap.size X wx)
            case first =>
              by_cases hxy : x = y
              · subst hxy
                go_wp2_with fail
                go_meet
                exact ⟨by simp, Below.refl _ _⟩
              · have hxyb : ((x : Int) == (y : Int)) = false := by simp; omega
                have hqh := qHas_any As ms cs x y s.seen.reverse X (Sl.own HIX.out.seen (by omega)) hms
                have e : decide ((x, y) ∈ s.seen.reverse) = decide (x = y ∨ (x, y) ∈ s.seen) := by simp [hxy]
                rw [e] at hqh
                have Hqh := Lib.hid hqh
                clear hqh e hxy
                go_wp2_with (first
                  | (go_at_call 64; go_must (refine Hqh.out.mono ?_); rintro e w5 ⟨rfl, hb5⟩))
                go_meet
                exact ⟨by simp, hb5⟩
            case rest =>
              obtain ⟨rfl, hb5⟩ := hcut
              have HIV := Lib.hid (HIX.out.below hb5)
              have HownV := Lib.hid (own_below Hown9.out hb5)
              have hsV5 := hb5.size
              clear hb5 HIX Hown9
              generalize wc = V at *
              have hwV := HIV.out.hp.pre.size
              cases hsk : decide (x = y ∨ (x, y) ∈ s.seen)
              · have hsk' : ¬ (x = y ∨ (x, y) ∈ s.seen) := by simpa using hsk
                have Hsk := Lib.hid hsk'
                clear hsk hsk'
                obtain ⟨Ag, cg, Bg, mg, dg, p1, p2, p3, p4, p5⟩ := HIV.out.hp.gb
                obtain ⟨y0, y1, y2, yl⟩ := open3 p1
                obtain ⟨X1, hX1⟩ := p2.get (show x < n by have := Hx.out.2; have := Hln.out; omega)
                obtain ⟨Y1, hY1⟩ := p2.get (show y < n by have := Hy.out.2; have := Hln.out; omega)
                obtain ⟨bb, off, rfl, hbb, hwfx, e0, e1, e2⟩ := p2.at_ hX1
                obtain ⟨bb', off', he', _, hwfy, e3, e4, e5⟩ := p2.at_ hY1
                injection he' with he'
                injection he' with i1 i2 i3
                subst i1; subst i2
                have hxn : x < n := by have := Hx.out.2; have := Hln.out; omega
                have hyn : y < n := by have := Hy.out.2; have := Hln.out; omega
                have hcd := p2.sl.hcap
                have hcm := p2.sl.hmax
                unfold maxLen at hcm
                have HX1 := Lib.hid (sAt_get hX1)
                have HY1 := Lib.hid (sAt_get hY1)
                clear hX1 hY1 hwfx hwfy e1 e2 e4 e5 p1 p2 p3 p4 p5
                go_upto_region 8 with fail
                go_quiet (fail)
                have hDV : Below V.heap.size V (V.drewN nq) := below_drewN (Below.refl _ _) _
                have HID := Lib.hid (HIV.out.below hDV)
                have HownD := Lib.hid (own_below HownV.out hDV)
                have hsD : V.heap.size ≤ (V.drewN nq).heap.size := hDV.size
                clear HIV HownV hDV y0 y1 y2 yl e0 e3 hbb
                generalize V.drewN nq = D at *
                have hfx : X1.kind = 1 → Free1 s.l x := fun hk => ⟨Hx.out.2, by rw [HX1.out]; exact hk, by
                  rcases Hx3.out with ⟨_, h2⟩ | h2 | h2
                  · exact h2
                  · rw [HX1.out] at h2; omega
                  · rw [HX1.out] at h2; omega⟩
                have hfy : Y1.kind = 1 → Free1 s.l y := fun hk => ⟨Hy.out.2, by rw [HY1.out]; exact hk, by
                  rcases Hy3.out with ⟨_, h2⟩ | h2 | h2
                  · exact h2
                  · rw [HY1.out] at h2; omega
                  · rw [HY1.out] at h2; omega⟩
                have Hfx := Lib.hid hfx
                have Hfy := Lib.hid hfy
                obtain ⟨Ag2, cg2, Bg2, mg2, dg2, p1, p2, p3, p4, p5⟩ := HID.out.hp.gb
                obtain ⟨y0, y1, y2, yl⟩ := open3 p1
                have hmg2 : mg2 ≤ 100000 := by
                  have h1 := p3.len
                  have h2 := HID.out.ok.tr.len
                  have h3 := HID.out.len
                  omega
                have Hbd := Lib.hid (fun wz (hb : Below D.heap.size D wz) (p q : Nat) (hp : p < n) (hq : q < n) => qBind_any Ag2 Bg2 n cg2 mg2 dg2 r s.l s.tr p q wz (p2.below hb) (p3.below hb) (by omega) hmg2 hp hq)
                have Hre := Lib.hid (fun (p : Nat) (hp : p < n) => qReach_any Ag2 Bg2 n cg2 mg2 dg2 r s.l p D p2 HID.out.ok.good.shp (by omega) hp)
                have Hpr := Lib.hid (qpairs_any Ag2 Bg2 n cg2 mg2 dg2 x y r s.l D p2 HID.out.ok.good.shp (by omega) hxn hyn)
                have Hp1 := Lib.hid p1
                clear hfx hfy p1 p2 p3 p4 p5
                by_cases kx : X1.kind = 1
                · have kxb : (X1.kind == 1) = true := by simp [kx]
                  by_cases ky : Y1.kind = 1
                  · have kyb : (Y1.kind == 1) = true := by simp [ky]
                    have hone : uOne s row x y = some (s.bound row (max x y) (min x y)) := by
                      unfold uOne
                      rw [if_neg Hsk.out, if_pos ⟨by rw [HX1.out]; exact kx, by rw [HY1.out]; exact ky⟩]
                    have hxy : x ≠ y := fun e => Hsk.out (.inl e)
                    rcases Nat.lt_or_gt_of_ne hxy with hlt | hlt
                    · rw [Nat.max_eq_right (Nat.le_of_lt hlt), Nat.min_eq_left (Nat.le_of_lt hlt)] at hone
                      have hltz : (x : Int) < (y : Int) := by omega
                      have hltn : ¬ (y : Int) < (x : Int) := by omega
                      have h1 := Hrun.out
                      rw [hone] at h1
                      have HS := Lib.hid (Hstep.out _ hone)
                      have H1 := Lib.hid h1
                      clear h1 hone
                      have HF := Lib.hid (Hfy.out ky)
                      clear kx ky hlt hxy
                      go_wp2_with (first
                        | (go_at_call 65; go_must (refine (Hbd.out D (Below.refl _ _) y x hyn hxn).mono ?_); rintro e w5 ⟨A5, c5, B5, d5, rfl, hC5, hI5, hb5, ht5, hu5⟩; have p15 := (hb5.block gb yl).trans Hp1.out; clear y0 y1 y2 yl; obtain ⟨y0, y1, y2, yl⟩ := open3 p15; have vf0 := frozen_of p15 0; have vf1 := frozen_of p15 1; have vf2 := frozen_of p15 2; have Hp15 := Lib.hid p15; clear p15))
                      have hQ := QI.bound (HID.out.hp.below hb5) hC5 hI5 ht5 hu5 (own_lower (own_below HownD.out hb5) (by omega)) (own_below HID.out.seen hb5) HID.out.ok.good.shp HF.out HS.out.1 HS.out.2.1 HID.out.len HID.out.top H1.out
                      have HQ := Lib.hid hQ
                      clear hQ
                      go_roundg (s.bound row y x).mu
                      case measure => exact Nat.lt_of_lt_of_le HS.out.2.1 HID.out.mu
                      case rel => exact ⟨_, k, c9, ms, cs, A9, As, rfl, rfl, HQ.out⟩
                    · rw [Nat.max_eq_left (Nat.le_of_lt hlt), Nat.min_eq_right (Nat.le_of_lt hlt)] at hone
                      have hltz : (y : Int) < (x : Int) := by omega
                      have hltn : ¬ (x : Int) < (y : Int) := by omega
                      have h1 := Hrun.out
                      rw [hone] at h1
                      have HS := Lib.hid (Hstep.out _ hone)
                      have H1 := Lib.hid h1
                      clear h1 hone
                      have HF := Lib.hid (Hfx.out kx)
                      clear kx ky hlt hxy
                      go_wp2_with (first
                        | (go_at_call 65; go_must (refine (Hbd.out D (Below.refl _ _) x y hxn hyn).mono ?_); rintro e w5 ⟨A5, c5, B5, d5, rfl, hC5, hI5, hb5, ht5, hu5⟩; have p15 := (hb5.block gb yl).trans Hp1.out; clear y0 y1 y2 yl; obtain ⟨y0, y1, y2, yl⟩ := open3 p15; have vf0 := frozen_of p15 0; have vf1 := frozen_of p15 1; have vf2 := frozen_of p15 2; have Hp15 := Lib.hid p15; clear p15))
                      have hQ := QI.bound (HID.out.hp.below hb5) hC5 hI5 ht5 hu5 (own_lower (own_below HownD.out hb5) (by omega)) (own_below HID.out.seen hb5) HID.out.ok.good.shp HF.out HS.out.1 HS.out.2.1 HID.out.len HID.out.top H1.out
                      have HQ := Lib.hid hQ
                      clear hQ
                      go_roundg (s.bound row x y).mu
                      case measure => exact Nat.lt_of_lt_of_le HS.out.2.1 HID.out.mu
                      case rel => exact ⟨_, k, c9, ms, cs, A9, As, rfl, rfl, HQ.out⟩
                  · have kyb : (Y1.kind == 1) = false := by simp [ky]
                    have hRc := Hre.out y hyn
                    have Hrc := Lib.hid hRc
                    have hre : rch s.l y x = pathB s.l y x := rch_pathB HID.out.ok.good (by have := Hln.out; omega)
                    clear hRc
                    cases hpb : pathB s.l y x
                    · have hone : uOne s row x y = some (s.bound row x y) := by
                        unfold uOne
                        rw [if_neg Hsk.out, if_neg (fun h => ky (HY1.out ▸ h.2)), if_pos (by rw [HX1.out]; exact kx)]
                        rw [hre, hpb]; rfl
                      have h1 := Hrun.out
                      rw [hone] at h1
                      have HS := Lib.hid (Hstep.out _ hone)
                      have H1 := Lib.hid h1
                      clear h1 hone
                      have HF := Lib.hid (Hfx.out kx)
                      have Hpb := Lib.hid hpb
                      clear kx ky hre hpb
                      go_upto_region 17 with (first
                        | (go_at_call 66; go_must (refine Hrc.out.mono ?_); rintro e w4 ⟨g4, rfl, hg4, hr4, hb4⟩; have hrc := hr4.cell (i := x) hxn; rw [Hpb.out] at hrc; have hg4l := hr4.lt; have HIE := Lib.hid (HID.out.below hb4); have Hb4 := Lib.hid hb4; have hs4 := hb4.size; have p14 := (hb4.block gb yl).trans Hp1.out; clear y0 y1 y2 yl hb4 hr4; obtain ⟨y0, y1, y2, yl⟩ := open3 p14; have Hp14 := Lib.hid p14; clear p14))
                      have HownE := Lib.hid (own_below HownD.out Hb4.out)
                      clear hrc
                      go_wp2_with (first
                        | (go_at_call 65; go_must (refine (Hbd.out w4 Hb4.out x y hxn hyn).mono ?_); rintro e w5 ⟨A5, c5, B5, d5, rfl, hC5, hI5, hb5, ht5, hu5⟩; have p15 := (hb5.block gb yl).trans Hp14.out; clear y0 y1 y2 yl; obtain ⟨y0, y1, y2, yl⟩ := open3 p15; have vf0 := frozen_of p15 0; have vf1 := frozen_of p15 1; have vf2 := frozen_of p15 2; have Hp15 := Lib.hid p15; clear p15))
                      have hQ := QI.bound (HIE.out.hp.below hb5) hC5 hI5 ht5 hu5 (own_lower (own_below HownE.out hb5) (by omega)) (own_below HIE.out.seen hb5) HIE.out.ok.good.shp HF.out HS.out.1 HS.out.2.1 HIE.out.len HIE.out.top H1.out
                      have HQ := Lib.hid hQ
                      clear hQ
                      go_roundg (s.bound row x y).mu
                      case measure => exact Nat.lt_of_lt_of_le HS.out.2.1 HIE.out.mu
                      case rel => exact ⟨_, k, c9, ms, cs, A9, As, rfl, rfl, HQ.out⟩
                    · have hone : uOne s row x y = none := by
                        unfold uOne
                        rw [if_neg Hsk.out, if_neg (fun h => ky (HY1.out ▸ h.2)), if_pos (by rw [HX1.out]; exact kx)]
                        rw [hre, hpb]; rfl
                      have Hpb := Lib.hid hpb
                      have hUn : U = none := by
                        obtain ⟨j, hj, hr⟩ := Hrun.out
                        rw [hone] at hr
                        exact hr.symm
                      subst hUn
                      clear hone
                      clear kx ky hre hpb
                      go_upto_region 16 with (first
                        | (go_at_call 66; go_must (refine Hrc.out.mono ?_); rintro e w4 ⟨g4, rfl, hg4, hr4, hb4⟩; have hrc := hr4.cell (i := x) hxn; rw [Hpb.out] at hrc; have hg4l := hr4.lt; have HIE := Lib.hid (HID.out.below hb4); clear y0 y1 y2 yl hb4 hr4))
                      clear hrc
                      have hz0 := HIE.out.hp.pre.x0
                      have hz1 := HIE.out.hp.pre.x1
                      obtain ⟨z0, z1, z2, zl⟩ := open3 hz0
                      obtain ⟨t0, t1, t2, tl⟩ := open3 hz1
                      have zf0 := frozen_of hz1 0
                      have zf1 := frozen_of hz1 1
                      have zf2 := frozen_of hz1 2
                      have HbF := Lib.hid HIE.out.hp.pre.low
                      clear hz0 hz1
                      go_wp2
                      refine bodyPost_ret (v := .tuple #[.agg #[.slice A n c, .slice B m d, .int .i64 r], .bool false]) (by simp [results, Try.results24, go_sem, *]) rfl ?_
                      exact ⟨((HbF.out.setCell (show w.heap.size ≤ w.heap.size + 1 by omega) _).setCell (show w.heap.size ≤ w.heap.size + 1 by omega) _).setCell (show w.heap.size ≤ w.heap.size + 1 by omega) _, rfl⟩
                · have kxb : (X1.kind == 1) = false := by simp [kx]
                  by_cases ky : Y1.kind = 1
                  · have kyb : (Y1.kind == 1) = true := by simp [ky]
                    have hRc := Hre.out x hxn
                    have Hrc := Lib.hid hRc
                    have hre : rch s.l x y = pathB s.l x y := rch_pathB HID.out.ok.good (by have := Hln.out; omega)
                    clear hRc
                    cases hpb : pathB s.l x y
                    · have hone : uOne s row x y = some (s.bound row y x) := by
                        unfold uOne
                        rw [if_neg Hsk.out, if_neg (fun h => kx (HX1.out ▸ h.1)), if_neg (fun h => kx (HX1.out ▸ h)), if_pos (by rw [HY1.out]; exact ky)]
                        rw [hre, hpb]; rfl
                      have h1 := Hrun.out
                      rw [hone] at h1
                      have HS := Lib.hid (Hstep.out _ hone)
                      have H1 := Lib.hid h1
                      clear h1 hone
                      have HF := Lib.hid (Hfy.out ky)
                      have Hpb := Lib.hid hpb
                      clear kx ky hre hpb
                      go_upto_region 17 with (first
                        | (go_at_call 66; go_must (refine Hrc.out.mono ?_); rintro e w4 ⟨g4, rfl, hg4, hr4, hb4⟩; have hrc := hr4.cell (i := y) hyn; rw [Hpb.out] at hrc; have hg4l := hr4.lt; have HIE := Lib.hid (HID.out.below hb4); have Hb4 := Lib.hid hb4; have hs4 := hb4.size; have p14 := (hb4.block gb yl).trans Hp1.out; clear y0 y1 y2 yl hb4 hr4; obtain ⟨y0, y1, y2, yl⟩ := open3 p14; have Hp14 := Lib.hid p14; clear p14))
                      have HownE := Lib.hid (own_below HownD.out Hb4.out)
                      clear hrc
                      go_wp2_with (first
                        | (go_at_call 65; go_must (refine (Hbd.out w4 Hb4.out y x hyn hxn).mono ?_); rintro e w5 ⟨A5, c5, B5, d5, rfl, hC5, hI5, hb5, ht5, hu5⟩; have p15 := (hb5.block gb yl).trans Hp14.out; clear y0 y1 y2 yl; obtain ⟨y0, y1, y2, yl⟩ := open3 p15; have vf0 := frozen_of p15 0; have vf1 := frozen_of p15 1; have vf2 := frozen_of p15 2; have Hp15 := Lib.hid p15; clear p15))
                      have hQ := QI.bound (HIE.out.hp.below hb5) hC5 hI5 ht5 hu5 (own_lower (own_below HownE.out hb5) (by omega)) (own_below HIE.out.seen hb5) HIE.out.ok.good.shp HF.out HS.out.1 HS.out.2.1 HIE.out.len HIE.out.top H1.out
                      have HQ := Lib.hid hQ
                      clear hQ
                      go_roundg (s.bound row y x).mu
                      case measure => exact Nat.lt_of_lt_of_le HS.out.2.1 HIE.out.mu
                      case rel => exact ⟨_, k, c9, ms, cs, A9, As, rfl, rfl, HQ.out⟩
                    · have hone : uOne s row x y = none := by
                        unfold uOne
                        rw [if_neg Hsk.out, if_neg (fun h => kx (HX1.out ▸ h.1)), if_neg (fun h => kx (HX1.out ▸ h)), if_pos (by rw [HY1.out]; exact ky)]
                        rw [hre, hpb]; rfl
                      have Hpb := Lib.hid hpb
                      have hUn : U = none := by
                        obtain ⟨j, hj, hr⟩ := Hrun.out
                        rw [hone] at hr
                        exact hr.symm
                      subst hUn
                      clear hone
                      clear kx ky hre hpb
                      go_upto_region 16 with (first
                        | (go_at_call 66; go_must (refine Hrc.out.mono ?_); rintro e w4 ⟨g4, rfl, hg4, hr4, hb4⟩; have hrc := hr4.cell (i := y) hyn; rw [Hpb.out] at hrc; have hg4l := hr4.lt; have HIE := Lib.hid (HID.out.below hb4); clear y0 y1 y2 yl hb4 hr4))
                      clear hrc
                      have hz0 := HIE.out.hp.pre.x0
                      have hz1 := HIE.out.hp.pre.x1
                      obtain ⟨z0, z1, z2, zl⟩ := open3 hz0
                      obtain ⟨t0, t1, t2, tl⟩ := open3 hz1
                      have zf0 := frozen_of hz1 0
                      have zf1 := frozen_of hz1 1
                      have zf2 := frozen_of hz1 2
                      have HbF := Lib.hid HIE.out.hp.pre.low
                      clear hz0 hz1
                      go_wp2
                      refine bodyPost_ret (v := .tuple #[.agg #[.slice A n c, .slice B m d, .int .i64 r], .bool false]) (by simp [results, Try.results24, go_sem, *]) rfl ?_
                      exact ⟨((HbF.out.setCell (show w.heap.size ≤ w.heap.size + 1 by omega) _).setCell (show w.heap.size ≤ w.heap.size + 1 by omega) _).setCell (show w.heap.size ≤ w.heap.size + 1 by omega) _, rfl⟩
                  · have kyb : (Y1.kind == 1) = false := by simp [ky]
                    cases hbq : X1.beq Y1
                    · have hone : uOne s row x y = none := by
                        unfold uOne
                        rw [if_neg Hsk.out, if_neg (fun h => kx (HX1.out ▸ h.1)), if_neg (fun h => kx (HX1.out ▸ h)), if_neg (fun h => ky (HY1.out ▸ h)), HX1.out, HY1.out, hbq]; rfl
                      have hpf : pairsF s.l x y = none := by unfold pairsF; rw [HX1.out, HY1.out, hbq]; rfl
                      rw [hpf] at Hpr
                      have hUn : U = none := by
                        obtain ⟨j, hj, hr⟩ := Hrun.out
                        rw [hone] at hr
                        exact hr.symm
                      subst hUn
                      clear hone
                      clear kx ky hbq hpf
                      go_upto_region 20 with (first
                        | (go_at_call 67; go_must (refine Hpr.out.mono ?_); rintro e w4 hret; unfold RetPrs at hret; obtain ⟨hb4, hret⟩ := hret; simp only at hret; subst hret; have HIE := Lib.hid (HID.out.below hb4); clear y0 y1 y2 yl hb4))
                      have hz0 := HIE.out.hp.pre.x0
                      have hz1 := HIE.out.hp.pre.x1
                      obtain ⟨z0, z1, z2, zl⟩ := open3 hz0
                      obtain ⟨t0, t1, t2, tl⟩ := open3 hz1
                      have zf0 := frozen_of hz1 0
                      have zf1 := frozen_of hz1 1
                      have zf2 := frozen_of hz1 2
                      have HbF := Lib.hid HIE.out.hp.pre.low
                      clear hz0 hz1
                      go_wp2
                      refine bodyPost_ret (v := .tuple #[.agg #[.slice A n c, .slice B m d, .int .i64 r], .bool false]) (by simp [results, Try.results24, go_sem, *]) rfl ?_
                      exact ⟨((HbF.out.setCell (show w.heap.size ≤ w.heap.size + 1 by omega) _).setCell (show w.heap.size ≤ w.heap.size + 1 by omega) _).setCell (show w.heap.size ≤ w.heap.size + 1 by omega) _, rfl⟩
                    · have hone : uOne s row x y = some { s with row := argPairs x y X1 ++ row, seen := (x, y) :: s.seen } := by
                        unfold uOne
                        rw [if_neg Hsk.out, if_neg (fun h => kx (HX1.out ▸ h.1)), if_neg (fun h => kx (HX1.out ▸ h)), if_neg (fun h => ky (HY1.out ▸ h)), HX1.out, HY1.out, hbq]; rfl
                      have hpf : pairsF s.l x y = some (argPairs x y X1) := by unfold pairsF; rw [HX1.out, HY1.out, hbq]; rfl
                      have hal6 : (argPairs x y X1).length ≤ 6 := argPairs_len x y (by have := shp_at HID.out.ok.good.shp Hx.out.2; rw [HX1.out] at this; exact this)
                      rw [hpf] at Hpr
                      have h1 := Hrun.out
                      rw [hone] at h1
                      have HS := Lib.hid (Hstep.out _ hone)
                      have H1 := Lib.hid h1
                      clear h1 hone
                      clear kx ky hbq hpf
                      generalize argPairs x y X1 = more at *
                      go_upto_region 21 with (first
                        | (go_at_call 67; go_must (refine Hpr.out.mono ?_); rintro e w4 hret; unfold RetPrs at hret; obtain ⟨hb4, A4, n4, c4, rfl, ho4⟩ := hret; have HIE := Lib.hid (HID.out.below hb4); have HownE := Lib.hid (own_below HownD.out hb4); have hs4 := hb4.size; have Ho4 := Lib.hid ho4; clear y0 y1 y2 yl hb4 ho4))
                      have hn4 : n4 ≤ 6 := by
                        have := Ho4.out.1
                        rw [pairsV_len] at this
                        omega
                      have Hal : Hid (∀ o : Obj, Below w4.heap.size w4 (w4.alloc o)) := Lib.hid (fun o => (Below.refl _ _).alloc (Nat.le_refl _) o)
                      have Hse := Lib.hid HIE.out.seen
                      have hkn : k ≤ 1000000000 := hkb
                      go_upto_region 22 with (first
                        | (at_builtin; go_must (refine wpList_append_sl (v := .slice As ms cs) rfl (.tmp 121) (.tmp 125) 90 rfl (w.heap.size + 2) 89 Try.underlying90 infoPair rfl (by omega) rfl (Hse.out.alloc _) rfl (Sl.lit w4 _ [.int .i64 (x : Int), .int .i64 (y : Int)] 89 2 1 (by simp) rfl (by simp [maxLen])) (by intro u hu; simp at hu; rcases hu with rfl | rfl <;> rfl) (by omega) (by omega) (by simp; omega) ?_); intro A7 c7 w7 hown7 hb7 hgr7 hblk7; have Hown7 := Lib.hid hown7; have Hb7 := Lib.hid hb7; have Hgr7 := Lib.hid hgr7; have Hblk7 := Lib.hid hblk7; clear hown7 hb7 hgr7 hblk7))
                      have hs7 := Hb7.out
                      have hr7 := own_at HownE.out (w' := w7) (fun a ha => by
                        have h1 := Own0.lt HownE.out a ha
                        exact (grown_block (g := a.block) Hgr7.out (by simp; omega) (fun b hb => by have := Hslt.out b hb; omega)).trans (alloc_past h1.2))
                      have ho7 := own_at Ho4.out (w' := w7) (fun a ha => by
                        have h1 := Own0.lt Ho4.out a ha
                        exact (grown_block (g := a.block) Hgr7.out (by simp; omega) (fun b hb => by have := Hslt.out b hb; omega)).trans (alloc_past h1.2))
                      have hsz7 : w4.heap.size + 1 ≤ w7.heap.size := by have := Hgr7.out.size; simpa using this
                      have hlow4 := HIE.out.hp.pre.low
                      have hw74 := hlow4.size
                      have hH7 : QHp w w7 gb A B n c m d r s.l s.tr := (HIE.out.hp.below (Hal.out _)).grown ((hlow4.alloc hw74 _).trans (hs7.mono (by omega))) (by simp; omega) (Hse.out.alloc _) (by omega) Hgr7.out
                      have HH7 := Lib.hid hH7
                      have Hr7 := Lib.hid hr7
                      have Ho7 := Lib.hid ho7
                      clear hs7 hr7 ho7 hlow4 hH7
                      go_wp2_with (first
                        | (at_builtin; go_must (refine wpList_append_sl rfl (.tmp 127) (.tmp 128) 90 rfl D.heap.size 89 Try.underlying90 infoPair rfl (by omega) rfl Ho7.out rfl (Sl.own Hr7.out (by omega)) (pairs_one row) (by omega) (by omega) (by omega) ?_); intro A8 c8 w8 hown8 hb8 hgr8 _; have Hown8 := Lib.hid hown8; have Hb8 := Lib.hid hb8; have Hgr8 := Lib.hid hgr8; clear hown8 hb8 hgr8))
                      have hlow7 := HH7.out.pre.low
                      have hH8 := HH7.out.grown (hlow7.trans (Hb8.out.mono (by omega))) Hgr8.out.size Ho7.out (by omega) Hgr8.out
                      have hse8 := own_at Hown7.out (w' := w8) (fun a ha => by
                        refine grown_block (g := a.block) Hgr8.out (Own0.lt Hown7.out a ha).2 (fun b hb => ?_)
                        have h4 := Own0.lt Ho4.out b hb
                        have h7 := Hblk7.out
                        rw [ha] at h7
                        rcases h7 with h7 | h7
                        · cases hAs : As with
                          | none => rw [hAs] at h7; simp [Value.ownBlock] at h7
                          | some b' =>
                            rw [hAs] at h7
                            simp [Value.ownBlock] at h7
                            have := Hslt.out b' hAs
                            omega
                        · simp [Value.ownBlock] at h7
                          omega)
                      have hQ : QI w w8 gb A B n c m d r U { s with row := more ++ row, seen := (x, y) :: s.seen } A8 (n4 + k) c8 A7 (ms + 1) c7 ({ s with row := more ++ row, seen := (x, y) :: s.seen } : US).mu := by
                        obtain ⟨j, hj, hr⟩ := H1.out
                        have hmu : ({ s with row := more ++ row, seen := (x, y) :: s.seen } : US).mu < s.mu := HS.out.2.1
                        have htop := HID.out.top
                        refine ⟨hH8, ?_, ?_, HS.out.1, HID.out.len, ⟨j, by omega, hr⟩, Nat.le_refl _, by omega⟩
                        · show w8.ownsRow (w.heap.size + 2) 89 2 (.slice A8 (n4 + k) c8) (n4 + k) (pairsV (more ++ row))
                          rw [pairsV_append]
                          exact own_lower Hown8.out (by omega)
                        · show w8.ownsRow (w.heap.size + 2) 89 2 (.slice A7 (ms + 1) c7) (ms + 1) (pairsV ((x, y) :: s.seen).reverse)
                          rw [List.reverse_cons, pairsV_append]
                          exact hse8
                      have HQ := Lib.hid hQ
                      have hmu2 : ({ s with row := more ++ row, seen := (x, y) :: s.seen } : US).mu < gk := Nat.lt_of_lt_of_le HS.out.2.1 HID.out.mu
                      clear hQ hlow7 hH8 hse8
                      go_roundg ({ s with row := more ++ row, seen := (x, y) :: s.seen } : US).mu
                      case measure => exact hmu2
                      case rel => exact ⟨_, n4 + k, c8, ms + 1, c7, A8, A7, rfl, rfl, HQ.out⟩
              · have hsk' : x = y ∨ (x, y) ∈ s.seen := by simpa using hsk
                have hone : uOne s row x y = some { s with row := row } := by unfold uOne; rw [if_pos hsk']
                have h1 := Hrun.out
                rw [hone] at h1
                have HS := Lib.hid (Hstep.out _ hone)
                have H1 := Lib.hid h1
                have hU2 : QI w V gb A B n c m d r U ⟨s.l, s.tr, row, s.seen⟩ A9 k c9 As ms cs (⟨s.l, s.tr, row, s.seen⟩ : US).mu := by
                  obtain ⟨j, hj, hr⟩ := H1.out
                  have hmu : (⟨s.l, s.tr, row, s.seen⟩ : US).mu < s.mu := HS.out.2.1
                  have := HIV.out.top
                  exact ⟨HIV.out.hp, own_lower HownV.out (by omega), HIV.out.seen, HS.out.1, HIV.out.len, ⟨j, by omega, hr⟩, Nat.le_refl _, by omega⟩
                have HU2 := Lib.hid hU2
                have hmu2 : (⟨s.l, s.tr, row, s.seen⟩ : US).mu < gk := Nat.lt_of_lt_of_le HS.out.2.1 HIV.out.mu
                clear h1 hone hsk' hU2
                go_wp2
                go_roundg (⟨s.l, s.tr, row, s.seen⟩ : US).mu
                case measure => exact hmu2
                case rel => exact ⟨_, k, c9, ms, cs, A9, As, rfl, rfl, HU2.out⟩
set_option maxRecDepth 100000 in
set_option maxHeartbeats 2000000 in
theorem qUnify_out (A B : Option Addr) (n c m d : Nat) (r x y : Int) (w : World) (hn : n ≤ 5000) (hxy : ¬ ((0 ≤ x ∧ x < (n : Int)) ∧ (0 ≤ y ∧ y < (n : Int)))) :
    Calls Try.prog 24 #[.agg #[.slice A n c, .slice B m d, .int .i64 r], .int .i64 x, .int .i64 y] w (RetUniQ w A B n c m d r none) := by
  have hwa := fun wz => qIs_any A B n c m d r x wz (by omega)
  have hwb := fun wz => qIs_any A B n c m d r y wz (by omega)
  have Hwa := Lib.hid hwa
  have Hwb := Lib.hid hwb
  clear hwa hwb
  go_enter Try.func24, Try.ntmps24
  go_upto_region 1 with fail
  refine wp_world' (Φ := fun X => Pre3 w X A B n c m d r) ⟨((Below.refl _ _).alloc (Nat.le_refl _) _).alloc (by first | omega | (simp; done) | (simp; omega)) _, (alloc_past (by first | omega | (simp; done) | (simp; omega))).trans (alloc_at rfl), alloc_at (by first | omega | (simp; done) | (simp; omega)), (by first | omega | (simp; done) | (simp; omega))⟩ ?_
  intro X hpX
  have HpX := Lib.hid hpX
  obtain ⟨y0, y1, y2⟩ := hpX.held
  have yl := block_lt hpX.x0
  clear hpX
  cases hbx : (decide (0 ≤ x) && decide (x < (n : Int)))
  · rw [hbx] at Hwa
    clear hbx hxy
    go_upto_region 2 with (first
      | (go_at_call 32; have hfirst := y0; go_must (refine (Hwa.out _).mono ?_); rintro e w1 ⟨rfl, hb1⟩; have HpZ := Lib.hid (HpX.out.below hb1); clear y0 y1 y2 yl hfirst hb1))
    have hz0 := HpZ.out.x0
    have hz1 := HpZ.out.x1
    obtain ⟨z0, z1, z2, zl⟩ := open3 hz0
    obtain ⟨t0, t1, t2, tl⟩ := open3 hz1
    have zf0 := frozen_of hz1 0
    have zf1 := frozen_of hz1 1
    have zf2 := frozen_of hz1 2
    have HbF := Lib.hid HpZ.out.low
    clear hz0 hz1
    go_wp2
    refine bodyPost_ret (v := .tuple #[.agg #[.slice A n c, .slice B m d, .int .i64 r], .bool false]) (by simp [results, Try.results24, go_sem, *]) rfl ?_
    exact ⟨((HbF.out.setCell (show w.heap.size ≤ w.heap.size + 1 by omega) _).setCell (show w.heap.size ≤ w.heap.size + 1 by omega) _).setCell (show w.heap.size ≤ w.heap.size + 1 by omega) _, rfl⟩
  · have hby : (decide (0 ≤ y) && decide (y < (n : Int))) = false := by
      simp at hbx ⊢
      omega
    rw [hbx] at Hwa
    rw [hby] at Hwb
    clear hbx hby hxy
    go_upto_region 2 with (first
      | (go_at_call 32; have hfirst := y0; go_must (refine (Hwa.out _).mono ?_); rintro e w1 ⟨rfl, hb1⟩; have HpY := Lib.hid (HpX.out.below hb1); clear y0 y1 y2 yl hfirst hb1; obtain ⟨z0, z1, z2⟩ := HpY.out.held; have zl := block_lt HpY.out.x0)
      | (go_at_call 32; go_must (refine (Hwb.out _).mono ?_); rintro e w2 ⟨rfl, hb2⟩; have HpZ := Lib.hid (HpY.out.below hb2); clear z0 z1 z2 zl hb2))
    have hz0 := HpZ.out.x0
    have hz1 := HpZ.out.x1
    obtain ⟨z0, z1, z2, zl⟩ := open3 hz0
    obtain ⟨t0, t1, t2, tl⟩ := open3 hz1
    have zf0 := frozen_of hz1 0
    have zf1 := frozen_of hz1 1
    have zf2 := frozen_of hz1 2
    have HbF := Lib.hid HpZ.out.low
    clear hz0 hz1
    go_wp2
    refine bodyPost_ret (v := .tuple #[.agg #[.slice A n c, .slice B m d, .int .i64 r], .bool false]) (by simp [results, Try.results24, go_sem, *]) rfl ?_
    exact ⟨((HbF.out.setCell (show w.heap.size ≤ w.heap.size + 1 by omega) _).setCell (show w.heap.size ≤ w.heap.size + 1 by omega) _).setCell (show w.heap.size ≤ w.heap.size + 1 by omega) _, rfl⟩
theorem qUnify_any (A B : Option Addr) (n c m d : Nat) (r : Int) (l : List C) (tr : List Int) (x y : Int) (w : World) (h : IsC w A n c l) (hT : IsI w B m d tr) (hg : Good l) (ht : TrOk l tr) (hn : n ≤ 5000) (hm : m ≤ 100000) :
    Calls Try.prog 24 #[.agg #[.slice A n c, .slice B m d, .int .i64 r], .int .i64 x, .int .i64 y] w (RetUniQ w A B n c m d r (uniZ l tr x y)) := by
  have hl := h.len
  unfold uniZ
  by_cases hxy : (0 ≤ x ∧ x < (l.length : Int)) ∧ (0 ≤ y ∧ y < (l.length : Int))
  · rw [if_pos hxy]
    obtain ⟨a, rfl⟩ : ∃ a : Nat, x = a := ⟨x.toNat, by omega⟩
    obtain ⟨b, rfl⟩ : ∃ b : Nat, y = b := ⟨y.toNat, by omega⟩
    exact qUnify_in A B n c m d r l tr a b w h hT hg ht hn hm (by omega) (by omega)
  · rw [if_neg hxy]
    exact qUnify_out A B n c m d r x y w hn (by rw [← hl]; exact hxy)
end Go.Proofs.Ytlndjooddkjnoaa
