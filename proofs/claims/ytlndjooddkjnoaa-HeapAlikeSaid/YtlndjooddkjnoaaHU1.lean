/- The walk of the code's Undo. -/
import Derived.Test.YtlndjooddkjnoaaB0
import Derived.Test.YtlndjooddkjnoaaB6
import Derived.Test.YtlndjooddkjnoaaHC
import Derived.Test.YtlndjooddkjnoaaHB
set_option linter.unusedVariables false
set_option linter.unusedSimpArgs false
namespace Go.Proofs.Ytlndjooddkjnoaa
open Go.RowKit

/-- variables set free -/
def setA : List C → List Int → List C
  | l, [] => l
  | l, t :: ts => setA (setN l t.toNat t.toNat) ts
def undoL (l : List C) (tr : List Int) (mc mt : Nat) : List C := (setA l (tr.drop mt)).take mc
theorem setA_len : ∀ (ts : List Int) (l : List C), (setA l ts).length = l.length
  | [], _ => rfl
  | t :: ts, l => by rw [setA, setA_len ts, setN_len]
def RetH (w : World) (h : List C × List Int × Int) (e : Ending) (w' : World) : Prop := ∃ A' n' c' B' m' d', e = .returned (.agg #[.slice A' n' c', .slice B' m' d', .int .i64 h.2.2]) ∧ IsC w' A' n' c' h.1 ∧ IsI w' B' m' d' h.2.1 ∧ Below w.heap.size w w'
theorem own_setn {w : World} {base n c i q : Nat} {A : Option Addr} {ls : List C} (h : w.ownsRow base 68 3 (.slice A n c) n (flatC ls)) (hi : i < n) (hl : ls.length = n) :
    ∃ ga x, A = some ⟨ga, 0, none⟩ ∧ w.cell? ⟨ga, i * 3 + 2, none⟩ = some (.int .i64 x) ∧ w.frozen? ⟨ga, i * 3 + 2, none⟩ = false ∧ base ≤ ga ∧ ga < w.heap.size ∧ n ≤ c ∧ c ≤ maxLen ∧ (w.setCell ⟨ga, i * 3 + 2, none⟩ (.int .i64 (q : Int))).ownsRow base 68 3 (.slice A n c) n (flatC (setN ls i q)) := by
  obtain ⟨ga, x, rfl, h1, h2, h3, h4⟩ := Ly.slot (.inr h) (i := i) (by omega)
  have hs := Sl.own h (by omega)
  refine ⟨ga, x, rfl, h2, h3, (Own0.lt h _ rfl).1, h4, hs.hcap, hs.hmax, ?_⟩
  rw [← flatC_setN ls i q (by omega)]
  exact (h.stored _ _).1
theorem IsI.from_ {w : World} {B : Option Addr} {m d mt : Nat} {tr : List Int} (h : IsI w B m d tr) (hmt : mt ≤ m) : IsI w (if d = mt then B else B.map (·.add mt)) (m - mt) (d - mt) (tr.drop mt) := by
  refine ⟨?_, fun x hx => h.wf x (List.mem_of_mem_drop hx)⟩
  have hl := h.len
  have := h.sl.cut hmt (Nat.le_refl _) (by omega)
  simp only [Nat.mul_one] at this
  rw [← List.map_drop, List.take_of_length_le (by rw [List.length_map, List.length_drop]; omega)] at this
  exact this
set_option maxRecDepth 100000 in
set_option maxHeartbeats 4000000 in
theorem hUndo_any (A B R : Option Addr) (n c m d mc mt k kc : Nat) (r : Int) (l : List C) (tr : List Int) (w : World) (h : IsC w A n c l) (hT : IsI w B m d tr) (hn : n ≤ 100000) (hm : m ≤ 100000) (hmc : mc ≤ n) (hmt : mt ≤ m) (hat : ∀ t ∈ tr.drop mt, ∃ p : Nat, t = p ∧ p < n) :
    Calls Try.prog 29 #[.agg #[.slice A n c, .slice B m d, .int .i64 r], .agg #[.int .i64 mc, .int .i64 mt, .slice R k kc]] w (RetH w (undoL l tr mc mt, tr.take mt, r)) := by
  have hl := h.len
  have htl := hT.len
  generalize hU : (undoL l tr mc mt, tr.take mt, r) = U
  have HU := Lib.hid hU
  clear hU
  have Hl := Lib.hid hl
  have Htl := Lib.hid htl
  have HC := Lib.hid h
  have HT := Lib.hid hT
  have Hat := Lib.hid hat
  have hcs := fun wz (hb : Below w.heap.size w wz) => cloneS_any A n c l wz (HC.out.below hb) (by omega)
  have Hcs := Lib.hid hcs
  have hdc := hT.sl.hcap
  have hdm := hT.sl.hmax
  unfold maxLen at hdm
  clear hcs hl htl h hT hat
  go_enter Try.func29, Try.ntmps29
  go_upto_region 1 with fail
  refine wp_world' (Φ := fun X => Below w.heap.size w X ∧ X.heap.size = w.heap.size + 3 ∧ X.heap[w.heap.size]? = some (.cells #[.slice A n c, .slice B m d, .int .i64 r] 25 (0, 0)) ∧ X.heap[w.heap.size + 1]? = some (.cells #[.int .i64 mc, .int .i64 mt, .slice R k kc] 43 (0, 0)) ∧ X.heap[w.heap.size + 1 + 1]? = some (.cells #[.slice none 0 0, .slice none 0 0, .int .i64 0] 25 (0, 0)))
    ⟨(((Below.refl _ _).alloc (Nat.le_refl _) _).alloc (by first | omega | (simp; done) | (simp; omega)) _).alloc (by first | omega | (simp; done) | (simp; omega)) _, (by first | omega | (simp; done) | (simp; omega)), (alloc_past (by first | omega | (simp; done) | (simp; omega))).trans ((alloc_past (by first | omega | (simp; done) | (simp; omega))).trans (alloc_at rfl)), (alloc_past (by first | omega | (simp; done) | (simp; omega))).trans (alloc_at (by first | omega | (simp; done) | (simp; omega))), alloc_at (by first | omega | (simp; done) | (simp; omega))⟩ ?_
  rintro X ⟨hbX, hX1, x0, x1, x2⟩
  obtain ⟨g0, hg0⟩ : ∃ g0, g0 = w.heap.size := ⟨_, rfl⟩
  obtain ⟨g1, hg1⟩ : ∃ g1, g1 = w.heap.size + 1 := ⟨_, rfl⟩
  obtain ⟨g2, hg2⟩ : ∃ g2, g2 = w.heap.size + 1 + 1 := ⟨_, rfl⟩
  rw [← hg2] at x2 ⊢
  rw [← hg1] at x1 ⊢
  rw [← hg0] at x0 ⊢
  have HbX := Lib.hid hbX
  have hg0b : g0 < X.heap.size := by omega
  have hg1b : g1 < X.heap.size := by omega
  have hg2b : g2 < X.heap.size := by omega
  have hg2w' : w.heap.size ≤ g2 := by omega
  have hg02' : ¬ g0 = g2 := by omega
  have hg12' : ¬ g1 = g2 := by omega
  have hwB : w.heap.size ≤ X.heap.size := by omega
  obtain ⟨y0, y1, y2, yl⟩ := open3 x0
  obtain ⟨z0, z1, z2, zl⟩ := open3 x1
  clear hX1 hg0 hg1 hg2 hbX
  go_upto_region 2 with (first
    | (go_at_call 51; go_must (refine (Hcs.out _ HbX.out).mono ?_); rintro e w1 ⟨A1, c1, rfl, ho1, hb1⟩; have hx0 := (hb1.block g0 hg0b).trans x0; have hx1 := (hb1.block g1 hg1b).trans x1; obtain ⟨u0, u1, u2, ul⟩ := open3 hx0; obtain ⟨v0, v1, v2, vl⟩ := open3 hx1))
  have Ho1 := Lib.hid ho1
  have Hb1 := Lib.hid hb1
  clear ho1 hb1 y0 y1 y2 yl z0 z1 z2 zl hx0 hx1
  have hTc0 := HT.out.from_ hmt
  by_cases hdm0 : d = mt
  · rw [if_pos hdm0] at hTc0
    have hTc : IsI w B (m - mt) 0 (tr.drop mt) := by rw [hdm0, Nat.sub_self] at hTc0; exact hTc0
    clear hTc0
    go_upto_region 3 with fail
    clear hdm0
    have HTc := Lib.hid hTc
    have hcapc := hTc.sl.hcap
    have hmaxc := hTc.sl.hmax
    unfold maxLen at hmaxc
    have Hlc := Lib.hid hTc.len
    clear hTc
    generalize hK : m - mt = K at *
    have hK2 := Lib.hid hK
    clear hK
    go_loopw [17] (fun kv wr => ∃ (k : Nat) (ls : List C), k ≤ K ∧ kv = .int .i64 k ∧ wr.ownsRow X.heap.size 68 3 (.slice A1 n c1) n (flatC ls) ∧ Hid (setA ls ((tr.drop mt).drop k) = setA l (tr.drop mt)) ∧ Hid ((∀ c ∈ ls, c.wf) ∧ ls.length = n) ∧ Below X.heap.size X wr) (fun kv _ => K - (intOf kv).toNat)
    case atStart => exact ⟨0, l, Nat.zero_le _, rfl, Ho1.out, Lib.hid rfl, Lib.hid ⟨HC.out.wf, Hl.out⟩, Hb1.out⟩
    case round =>
      clear u0 u1 u2 ul v0 v1 v2 vl Ho1 Hb1
      obtain ⟨k, ls, hk, rfl, hown, hres, hls, hb⟩ := hrel
      by_cases hlt : k < K
      · exfalso; omega
      · have hkK : k = K := by omega
        subst hkK
        have hfin : Hid (ls = setA l (tr.drop mt)) := Lib.hid (by
          have h1 := hres.out
          rw [List.drop_of_length_le (by rw [Hlc.out]; exact Nat.le_refl _)] at h1
          exact h1)
        have f0 := (hb.block g0 hg0b).trans x0
        have f1 := (hb.block g1 hg1b).trans x1
        have f2 := (hb.block g2 hg2b).trans x2
        obtain ⟨u0, u1, u2, ul⟩ := open3 f0
        obtain ⟨v0, v1, v2, vl⟩ := open3 f1
        have hsl := Sl.own hown (by omega)
        have hc1 := hsl.hcap
        have hc2 := hsl.hmax
        unfold maxLen at hc2
        have hIC : IsC wr A1 mc c1 (ls.take mc) := IsC.take ⟨hsl, hls.out.1⟩ hmc
        have HIC := Lib.hid hIC
        have HbR := Lib.hid (HbX.out.trans (hb.mono hwB))
        have HIT := Lib.hid ((HT.out.take hmt).below HbR.out)
        have hNA : Hid (∀ a, A1 = some a → a.block ≠ g2) := Lib.hid (own_ne hown f2 (by intro cur he; simp at he))
        have hF2 : Hid (wr.drew.heap[g2]? = some (.cells #[.slice none 0 0, .slice none 0 0, .int .i64 0] 25 (0, 0))) := Lib.hid f2
        have hICd : IsC wr.drew A1 mc c1 (ls.take mc) := hIC.drewN 1
        have HICd := Lib.hid hICd
        have HbRd := Lib.hid (HbR.out.drew)
        clear f0 f1 f2 hown hsl hIC hICd hb hres Hlc hls
        go_upto_region 7 with fail
        refine wp_region_held_drew (S := fun w' => w'.cell? ⟨g0, 1, none⟩ = some (.slice B m d) ∧ w'.cell? ⟨g0, 2, none⟩ = some (.int .i64 r) ∧ w'.cell? ⟨g1, 0, none⟩ = some (.int .i64 mc) ∧ w'.cell? ⟨g1, 1, none⟩ = some (.int .i64 mt)) (by kernel_rfl) ?gs ?gr
        case gs => simp [*]
        case gr =>
          intro hHeld
          have hg2d : g2 < wr.drew.heap.size := block_lt hF2.out
          clear u0 u1 u2 ul v0 v1 v2 vl
          generalize wr.drew = V at *
          obtain ⟨w0, w1, w2, wl⟩ := open3 hF2.out
          have hmcc : mc ≤ c1 := by omega
          have hmtd : mt ≤ d := by omega
          have wf0 := frozen_of hF2.out 0
          have wf1 := frozen_of hF2.out 1
          have wf2 := frozen_of hF2.out 2
          refine takeH 0 hHeld ?_
          try simp only [Act.put, List.setIfInBounds_toArray, List.set_cons_zero, List.set_cons_succ]
          refine takeH 1 hHeld ?_
          try simp only [Act.put, List.setIfInBounds_toArray, List.set_cons_zero, List.set_cons_succ]
          refine takeH 2 hHeld ?_
          try simp only [Act.put, List.setIfInBounds_toArray, List.set_cons_zero, List.set_cons_succ]
          refine takeH 3 hHeld ?_
          try simp only [Act.put, List.setIfInBounds_toArray, List.set_cons_zero, List.set_cons_succ]
          refine takeH 4 hHeld ?_
          try simp only [Act.put, List.setIfInBounds_toArray, List.set_cons_zero, List.set_cons_succ]
          refine takeH 5 hHeld ?_
          try simp only [Act.put, List.setIfInBounds_toArray, List.set_cons_zero, List.set_cons_succ]
          refine takeH 6 hHeld ?_
          try simp only [Act.put, List.setIfInBounds_toArray, List.set_cons_zero, List.set_cons_succ]
          refine takeH 7 hHeld ?_
          try simp only [Act.put, List.setIfInBounds_toArray, List.set_cons_zero, List.set_cons_succ]
          refine takeH 8 hHeld ?_
          try simp only [Act.put, List.setIfInBounds_toArray, List.set_cons_zero, List.set_cons_succ]
          refine takeH 9 hHeld ?_
          try simp only [Act.put, List.setIfInBounds_toArray, List.set_cons_zero, List.set_cons_succ]
          refine takeH 10 hHeld ?_
          try simp only [Act.put, List.setIfInBounds_toArray, List.set_cons_zero, List.set_cons_succ]
          refine takeH 11 hHeld ?_
          try simp only [Act.put, List.setIfInBounds_toArray, List.set_cons_zero, List.set_cons_succ]
          refine held_one (i := 12) (o := ?oi12u13) (by kernel_rfl) ?hi12u13 (fun K hK => ?rest12u13)
          case hi12u13 => (simp only [List.getElem?_toArray, List.getElem?_cons_succ, List.getElem?_cons_zero]; exact rfl)
          go_simp
          have hHeld8 : (fun w' : World => w'.cell? ⟨g0, 1, none⟩ = some (.slice B m d) ∧ w'.cell? ⟨g0, 2, none⟩ = some (.int .i64 r) ∧ w'.cell? ⟨g1, 0, none⟩ = some (.int .i64 mc) ∧ w'.cell? ⟨g1, 1, none⟩ = some (.int .i64 mt)) (((V.setCell ⟨g2, 0, none⟩ (.slice A1 mc c1)).setCell ⟨g2, 1, none⟩ (.slice B mt d)).setCell ⟨g2, 2, none⟩ (.int .i64 r)) := ⟨(by first | (simp [*]; done) | (go_simp; done) | (go_simp; simp [*]; done)), (by first | (simp [*]; done) | (go_simp; done) | (go_simp; simp [*]; done)), (by first | (simp [*]; done) | (go_simp; done) | (go_simp; simp [*]; done)), (by first | (simp [*]; done) | (go_simp; done) | (go_simp; simp [*]; done))⟩
          refine hK _ _ hHeld8 ?_
          clear hK K hHeld
          have hHeld := hHeld8
          clear hHeld8
          try simp only [Act.put, List.setIfInBounds_toArray, List.set_cons_zero, List.set_cons_succ]
          refine wpAnyH_done (by kernel_rfl) ?_ _
          have hkF : Kq g2 V (((V.setCell ⟨g2, 0, none⟩ (.slice A1 mc c1)).setCell ⟨g2, 1, none⟩ (.slice B mt d)).setCell ⟨g2, 2, none⟩ (.int .i64 r)) := ((Kq.set V 0 _).trans (Kq.set _ 1 _)).trans (Kq.set _ 2 _)
          have hIF := HICd.out.kq hkF hNA.out
          have hbF := HbRd.out.trans (hkF.bel.mono hg2w')
          have hTF := (HT.out.take hmt).below hbF
          have q0 : (((V.setCell ⟨g2, 0, none⟩ (.slice A1 mc c1)).setCell ⟨g2, 1, none⟩ (.slice B mt d)).setCell ⟨g2, 2, none⟩ (.int .i64 r)).cell? ⟨g2, 0, none⟩ = some (.slice A1 mc c1) := (by first | (simp [*]; done) | (go_simp; done) | (go_simp; simp [*]; done))
          have q1 : (((V.setCell ⟨g2, 0, none⟩ (.slice A1 mc c1)).setCell ⟨g2, 1, none⟩ (.slice B mt d)).setCell ⟨g2, 2, none⟩ (.int .i64 r)).cell? ⟨g2, 1, none⟩ = some (.slice B mt d) := (by first | (simp [*]; done) | (go_simp; done) | (go_simp; simp [*]; done))
          have q2 : (((V.setCell ⟨g2, 0, none⟩ (.slice A1 mc c1)).setCell ⟨g2, 1, none⟩ (.slice B mt d)).setCell ⟨g2, 2, none⟩ (.int .i64 r)).cell? ⟨g2, 2, none⟩ = some (.int .i64 r) := (by first | (simp [*]; done) | (go_simp; done) | (go_simp; simp [*]; done))
          have HIF := Lib.hid hIF
          have HbF := Lib.hid hbF
          have HTF := Lib.hid hTF
          clear hkF hIF hbF hTF hHeld
          generalize (((V.setCell ⟨g2, 0, none⟩ (.slice A1 mc c1)).setCell ⟨g2, 1, none⟩ (.slice B mt d)).setCell ⟨g2, 2, none⟩ (.int .i64 r)) = F at *
          go_wp2
          refine bodyPost_ret (v := .agg #[.slice A1 mc c1, .slice B mt d, .int .i64 r]) (by simp [results, Try.results29, go_sem, *]) rfl ?_
          rw [← HU.out]
          have hl9 : undoL l tr mc mt = ls.take mc := by unfold undoL; rw [hfin.out]
          refine ⟨A1, mc, c1, B, mt, d, rfl, ?_, HTF.out, HbF.out⟩
          show IsC F A1 mc c1 (undoL l tr mc mt)
          rw [hl9]
          exact HIF.out
  · rw [if_neg hdm0] at hTc0
    have hTc := hTc0
    clear hTc0
    go_upto_region 3 with fail
    generalize Option.map (fun x => x.add mt) B = Bc at *
    generalize d - mt = dc at *
    have HTc := Lib.hid hTc
    have hcapc := hTc.sl.hcap
    have hmaxc := hTc.sl.hmax
    unfold maxLen at hmaxc
    have Hlc := Lib.hid hTc.len
    clear hTc
    generalize hK : m - mt = K at *
    have hK2 := Lib.hid hK
    clear hK
    go_loopw [17] (fun kv wr => ∃ (k : Nat) (ls : List C), k ≤ K ∧ kv = .int .i64 k ∧ wr.ownsRow X.heap.size 68 3 (.slice A1 n c1) n (flatC ls) ∧ Hid (setA ls ((tr.drop mt).drop k) = setA l (tr.drop mt)) ∧ Hid ((∀ c ∈ ls, c.wf) ∧ ls.length = n) ∧ Below X.heap.size X wr) (fun kv _ => K - (intOf kv).toNat)
    case atStart => exact ⟨0, l, Nat.zero_le _, rfl, Ho1.out, Lib.hid rfl, Lib.hid ⟨HC.out.wf, Hl.out⟩, Hb1.out⟩
    case round =>
      clear u0 u1 u2 ul v0 v1 v2 vl Ho1 Hb1
      obtain ⟨k, ls, hk, rfl, hown, hres, hls, hb⟩ := hrel
      by_cases hlt : k < K
      · obtain ⟨t, ht⟩ := HTc.out.get hlt
        obtain ⟨p, rfl, hpn⟩ := Hat.out t (List.mem_of_getElem? ht)
        obtain ⟨b, off, rfl, hbb, hwf, q0⟩ := HTc.out.at_ ht
        have q0' := ((HbX.out.trans (hb.mono hwB)).cell (p := ⟨b, off + k, none⟩) hbb).trans q0
        have hbr : b < wr.heap.size := Nat.lt_of_lt_of_le hbb (HbX.out.trans (hb.mono hwB)).size
        obtain ⟨ga, xv, rfl, r0, r1, r2, r3, r4, r5, r6⟩ := own_setn (i := p) (q := p) hown hpn hls.out.2
        unfold maxLen at r5
        have R6 := Lib.hid r6
        have hd := drop_get ht
        have Hd := Lib.hid hd
        have HbS := Lib.hid (Below.setCell (p := ⟨ga, p * 3 + 2, none⟩) hb r2 (.int .i64 (p : Int)))
        have hpK : (p : Int) < (n : Int) := by omega
        clear r6 hown ht hd hb q0
        go_wp2_with fail
        go_roundw
        case rel =>
          refine ⟨k + 1, setN ls p p, by omega, by go_num, R6.out, ?_, ?_, HbS.out⟩
          · have := hres.out
            rw [Hd.out] at this
            exact Lib.hid this
          · exact Lib.hid ⟨setN_wf hls.out.1 (by rw [hls.out.2]; exact hpn) (by omega), by rw [setN_len]; exact hls.out.2⟩
        case measure => simp [intOf]; omega
      · have hkK : k = K := by omega
        subst hkK
        have hfin : Hid (ls = setA l (tr.drop mt)) := Lib.hid (by
          have h1 := hres.out
          rw [List.drop_of_length_le (by rw [Hlc.out]; exact Nat.le_refl _)] at h1
          exact h1)
        have f0 := (hb.block g0 hg0b).trans x0
        have f1 := (hb.block g1 hg1b).trans x1
        have f2 := (hb.block g2 hg2b).trans x2
        obtain ⟨u0, u1, u2, ul⟩ := open3 f0
        obtain ⟨v0, v1, v2, vl⟩ := open3 f1
        have hsl := Sl.own hown (by omega)
        have hc1 := hsl.hcap
        have hc2 := hsl.hmax
        unfold maxLen at hc2
        have hIC : IsC wr A1 mc c1 (ls.take mc) := IsC.take ⟨hsl, hls.out.1⟩ hmc
        have HIC := Lib.hid hIC
        have HbR := Lib.hid (HbX.out.trans (hb.mono hwB))
        have HIT := Lib.hid ((HT.out.take hmt).below HbR.out)
        have hNA : Hid (∀ a, A1 = some a → a.block ≠ g2) := Lib.hid (own_ne hown f2 (by intro cur he; simp at he))
        have hF2 : Hid (wr.drew.heap[g2]? = some (.cells #[.slice none 0 0, .slice none 0 0, .int .i64 0] 25 (0, 0))) := Lib.hid f2
        have hICd : IsC wr.drew A1 mc c1 (ls.take mc) := hIC.drewN 1
        have HICd := Lib.hid hICd
        have HbRd := Lib.hid (HbR.out.drew)
        clear f0 f1 f2 hown hsl hIC hICd hb hres Hlc hls
        go_upto_region 7 with fail
        refine wp_region_held_drew (S := fun w' => w'.cell? ⟨g0, 1, none⟩ = some (.slice B m d) ∧ w'.cell? ⟨g0, 2, none⟩ = some (.int .i64 r) ∧ w'.cell? ⟨g1, 0, none⟩ = some (.int .i64 mc) ∧ w'.cell? ⟨g1, 1, none⟩ = some (.int .i64 mt)) (by kernel_rfl) ?gs ?gr
        case gs => simp [*]
        case gr =>
          intro hHeld
          have hg2d : g2 < wr.drew.heap.size := block_lt hF2.out
          clear u0 u1 u2 ul v0 v1 v2 vl
          generalize wr.drew = V at *
          obtain ⟨w0, w1, w2, wl⟩ := open3 hF2.out
          have hmcc : mc ≤ c1 := by omega
          have hmtd : mt ≤ d := by omega
          have wf0 := frozen_of hF2.out 0
          have wf1 := frozen_of hF2.out 1
          have wf2 := frozen_of hF2.out 2
          refine takeH 0 hHeld ?_
          try simp only [Act.put, List.setIfInBounds_toArray, List.set_cons_zero, List.set_cons_succ]
          refine takeH 1 hHeld ?_
          try simp only [Act.put, List.setIfInBounds_toArray, List.set_cons_zero, List.set_cons_succ]
          refine takeH 2 hHeld ?_
          try simp only [Act.put, List.setIfInBounds_toArray, List.set_cons_zero, List.set_cons_succ]
          refine takeH 3 hHeld ?_
          try simp only [Act.put, List.setIfInBounds_toArray, List.set_cons_zero, List.set_cons_succ]
          refine takeH 4 hHeld ?_
          try simp only [Act.put, List.setIfInBounds_toArray, List.set_cons_zero, List.set_cons_succ]
          refine takeH 5 hHeld ?_
          try simp only [Act.put, List.setIfInBounds_toArray, List.set_cons_zero, List.set_cons_succ]
          refine takeH 6 hHeld ?_
          try simp only [Act.put, List.setIfInBounds_toArray, List.set_cons_zero, List.set_cons_succ]
          refine takeH 7 hHeld ?_
          try simp only [Act.put, List.setIfInBounds_toArray, List.set_cons_zero, List.set_cons_succ]
          refine takeH 8 hHeld ?_
          try simp only [Act.put, List.setIfInBounds_toArray, List.set_cons_zero, List.set_cons_succ]
          refine takeH 9 hHeld ?_
          try simp only [Act.put, List.setIfInBounds_toArray, List.set_cons_zero, List.set_cons_succ]
          refine takeH 10 hHeld ?_
          try simp only [Act.put, List.setIfInBounds_toArray, List.set_cons_zero, List.set_cons_succ]
          refine takeH 11 hHeld ?_
          try simp only [Act.put, List.setIfInBounds_toArray, List.set_cons_zero, List.set_cons_succ]
          refine held_one (i := 12) (o := ?oi12u26) (by kernel_rfl) ?hi12u26 (fun K hK => ?rest12u26)
          case hi12u26 => (simp only [List.getElem?_toArray, List.getElem?_cons_succ, List.getElem?_cons_zero]; exact rfl)
          go_simp
          have hHeld8 : (fun w' : World => w'.cell? ⟨g0, 1, none⟩ = some (.slice B m d) ∧ w'.cell? ⟨g0, 2, none⟩ = some (.int .i64 r) ∧ w'.cell? ⟨g1, 0, none⟩ = some (.int .i64 mc) ∧ w'.cell? ⟨g1, 1, none⟩ = some (.int .i64 mt)) (((V.setCell ⟨g2, 0, none⟩ (.slice A1 mc c1)).setCell ⟨g2, 1, none⟩ (.slice B mt d)).setCell ⟨g2, 2, none⟩ (.int .i64 r)) := ⟨(by first | (simp [*]; done) | (go_simp; done) | (go_simp; simp [*]; done)), (by first | (simp [*]; done) | (go_simp; done) | (go_simp; simp [*]; done)), (by first | (simp [*]; done) | (go_simp; done) | (go_simp; simp [*]; done)), (by first | (simp [*]; done) | (go_simp; done) | (go_simp; simp [*]; done))⟩
          refine hK _ _ hHeld8 ?_
          clear hK K hHeld
          have hHeld := hHeld8
          clear hHeld8
          try simp only [Act.put, List.setIfInBounds_toArray, List.set_cons_zero, List.set_cons_succ]
          refine wpAnyH_done (by kernel_rfl) ?_ _
          have hkF : Kq g2 V (((V.setCell ⟨g2, 0, none⟩ (.slice A1 mc c1)).setCell ⟨g2, 1, none⟩ (.slice B mt d)).setCell ⟨g2, 2, none⟩ (.int .i64 r)) := ((Kq.set V 0 _).trans (Kq.set _ 1 _)).trans (Kq.set _ 2 _)
          have hIF := HICd.out.kq hkF hNA.out
          have hbF := HbRd.out.trans (hkF.bel.mono hg2w')
          have hTF := (HT.out.take hmt).below hbF
          have q0 : (((V.setCell ⟨g2, 0, none⟩ (.slice A1 mc c1)).setCell ⟨g2, 1, none⟩ (.slice B mt d)).setCell ⟨g2, 2, none⟩ (.int .i64 r)).cell? ⟨g2, 0, none⟩ = some (.slice A1 mc c1) := (by first | (simp [*]; done) | (go_simp; done) | (go_simp; simp [*]; done))
          have q1 : (((V.setCell ⟨g2, 0, none⟩ (.slice A1 mc c1)).setCell ⟨g2, 1, none⟩ (.slice B mt d)).setCell ⟨g2, 2, none⟩ (.int .i64 r)).cell? ⟨g2, 1, none⟩ = some (.slice B mt d) := (by first | (simp [*]; done) | (go_simp; done) | (go_simp; simp [*]; done))
          have q2 : (((V.setCell ⟨g2, 0, none⟩ (.slice A1 mc c1)).setCell ⟨g2, 1, none⟩ (.slice B mt d)).setCell ⟨g2, 2, none⟩ (.int .i64 r)).cell? ⟨g2, 2, none⟩ = some (.int .i64 r) := (by first | (simp [*]; done) | (go_simp; done) | (go_simp; simp [*]; done))
          have HIF := Lib.hid hIF
          have HbF := Lib.hid hbF
          have HTF := Lib.hid hTF
          clear hkF hIF hbF hTF hHeld
          generalize (((V.setCell ⟨g2, 0, none⟩ (.slice A1 mc c1)).setCell ⟨g2, 1, none⟩ (.slice B mt d)).setCell ⟨g2, 2, none⟩ (.int .i64 r)) = F at *
          go_wp2
          refine bodyPost_ret (v := .agg #[.slice A1 mc c1, .slice B mt d, .int .i64 r]) (by simp [results, Try.results29, go_sem, *]) rfl ?_
          rw [← HU.out]
          have hl9 : undoL l tr mc mt = ls.take mc := by unfold undoL; rw [hfin.out]
          refine ⟨A1, mc, c1, B, mt, d, rfl, ?_, HTF.out, HbF.out⟩
          show IsC F A1 mc c1 (undoL l tr mc mt)
          rw [hl9]
          exact HIF.out
end Go.Proofs.Ytlndjooddkjnoaa
