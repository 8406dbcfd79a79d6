/- The walk of the document's Undo. -/
import Derived.Test.YtlndjooddkjnoaaHQ6
import Derived.Test.YtlndjooddkjnoaaHpH
set_option linter.unusedVariables false
set_option linter.unusedSimpArgs false
namespace Go.Proofs.Ytlndjooddkjnoaa
open Go.RowKit

/-- variables set free, as whole slots -/
def setR : List C → List Int → List C
  | l, [] => l
  | l, t :: ts => setR (l.set t.toNat (refC t.toNat)) ts
def undoR (l : List C) (tr : List Int) (mc mt : Nat) : List C := (setR l (tr.drop mt)).take mc
theorem setR_setA : ∀ (ts : List Int) (l : List C), (∀ t ∈ ts, ∃ p : Nat, t = p ∧ p < l.length) → (∀ p, p < l.length → (p : Int) ∈ ts → (sAt l p).kind = 1 ∧ (sAt l p).name = ⟨#[]⟩) → setR l ts = setA l ts
  | [], l, _, _ => rfl
  | t :: ts, l, h1, h2 => by
    obtain ⟨p, rfl, hp⟩ := h1 t (by simp)
    obtain ⟨k1, k2⟩ := h2 p hp (by simp)
    have e : l.set p (refC p) = setN l p p := by
      unfold setN refC
      congr 1
      generalize sAt l p = c at *
      cases c
      simp only at k1 k2
      rw [k1, k2]
    unfold setR setA
    rw [Int.toNat_natCast, e]
    refine setR_setA ts _ (fun t ht => ?_) (fun q hq hm => ?_)
    · obtain ⟨q, h3, h4⟩ := h1 t (by simp [ht])
      exact ⟨q, h3, by rw [setN_len]; exact h4⟩
    · rw [setN_len] at hq
      rw [sAt_setN hp]
      split
      · rename_i hqp
        subst hqp
        exact ⟨k1, k2⟩
      · exact h2 q hq (by simp [hm])
set_option maxRecDepth 100000 in
set_option maxHeartbeats 4000000 in
theorem qUndo_any (A B R : Option Addr) (n c m d mc mt k kc : Nat) (r : Int) (l : List C) (tr : List Int) (w : World) (h : IsC w A n c l) (hT : IsI w B m d tr) (hn : n ≤ 100000) (hm : m ≤ 100000) (hmc : mc ≤ n) (hmt : mt ≤ m) (hat : ∀ t ∈ tr.drop mt, ∃ p : Nat, t = p ∧ p < n) :
    Calls Try.prog 30 #[.agg #[.slice A n c, .slice B m d, .int .i64 r], .agg #[.int .i64 mc, .int .i64 mt, .slice R k kc]] w (RetH w (undoR l tr mc mt, tr.take mt, r)) := by
  have hl := h.len
  have htl := hT.len
  generalize hU : (undoR l tr mc mt, tr.take mt, r) = U
  have HU := Lib.hid hU
  clear hU
  have Hl := Lib.hid hl
  have Htl := Lib.hid htl
  have HC := Lib.hid h
  have HT := Lib.hid hT
  have Hat := Lib.hid hat
  have hdc := hT.sl.hcap
  have hdm := hT.sl.hmax
  unfold maxLen at hdm
  clear hl htl h hT hat
  go_enter Try.func30, Try.ntmps30
  go_upto_region 1 with fail
  refine wp_world' (Φ := fun X => Below w.heap.size w X ∧ X.heap.size = w.heap.size + 3 ∧ X.heap[w.heap.size]? = some (.cells #[.slice A n c, .slice B m d, .int .i64 r] 25 (0, 0)) ∧ X.heap[w.heap.size + 1]? = some (.cells #[.int .i64 mc, .int .i64 mt, .slice R k kc] 43 (0, 0)) ∧ X.heap[w.heap.size + 1 + 1]? = some (.cells #[.slice none 0 0, .slice none 0 0, .int .i64 0] 25 (0, 0)))
    ⟨(((Below.refl _ _).alloc (Nat.le_refl _) _).alloc (by first | omega | (simp; done) | (simp; omega)) _).alloc (by first | omega | (simp; done) | (simp; omega)) _, (by first | omega | (simp; done) | (simp; omega)), (alloc_past (by first | omega | (simp; done) | (simp; omega))).trans ((alloc_past (by first | omega | (simp; done) | (simp; omega))).trans (alloc_at rfl)), (alloc_past (by first | omega | (simp; done) | (simp; omega))).trans (alloc_at (by first | omega | (simp; done) | (simp; omega))), alloc_at (by first | omega | (simp; done) | (simp; omega))⟩ ?_
  rintro X ⟨hbX, hX1, x0, x1, x2⟩
  obtain ⟨g0, hg0⟩ : ∃ g0, g0 = w.heap.size := ⟨_, rfl⟩
  obtain ⟨g1, hg1⟩ : ∃ g1, g1 = w.heap.size + 1 := ⟨_, rfl⟩
  obtain ⟨g2, hg2⟩ : ∃ g2, g2 = w.heap.size + 1 + 1 := ⟨_, rfl⟩
  rw [← hg2] at x2 ⊢
  rw [← hg1] at x1 ⊢
  rw [← hg0] at x0 ⊢
  have HbX := Lib.hid hbX
  have hg0b : g0 < X.heap.size := by omega
  have hg1b : g1 < X.heap.size := by omega
  have hg2b : g2 < X.heap.size := by omega
  have hg2w' : w.heap.size ≤ g2 := by omega
  have hg02' : ¬ g0 = g2 := by omega
  have hg12' : ¬ g1 = g2 := by omega
  have hwB : w.heap.size ≤ X.heap.size := by omega
  obtain ⟨y0, y1, y2, yl⟩ := open3 x0
  obtain ⟨z0, z1, z2, zl⟩ := open3 x1
  clear hX1 hg0 hg1 hg2 hbX
  have hRC := Lib.hid (fun (o : Obj) => HC.out.sl.below (HbX.out.alloc hwB o))
  go_upto_region 2 with (first
    | (at_builtin; go_must (refine wpList_append_sl rfl (.tmp 7) (.tmp 9) 22 rfl X.heap.size 68 Try.underlying22 infoS rfl (by omega) rfl (World.ownsRow_lit X #[] 0 (Nat.le_refl _) (by simp [maxLen]) rfl) rfl (hRC.out _) (oneC l) (by omega) (by omega) (by simp) ?_); intro A1 c1 w1 hown1 hb1' _ _; have ho1 : w1.ownsRow X.heap.size 68 3 (.slice A1 n c1) n (flatC l) := (by simpa using hown1); have hb1 : Below X.heap.size X w1 := ((Below.refl _ _).alloc (Nat.le_refl _) _).trans hb1'; clear hown1 hb1'))
  have hx0 := (hb1.block g0 hg0b).trans x0
  have hx1 := (hb1.block g1 hg1b).trans x1
  have Ho1 := Lib.hid ho1
  have Hb1 := Lib.hid hb1
  clear ho1 hb1 y0 y1 y2 yl z0 z1 z2 zl hRC
  obtain ⟨u0, u1, u2, ul⟩ := open3 hx0
  obtain ⟨v0, v1, v2, vl⟩ := open3 hx1
  clear hx0 hx1
  go_wp2
  go_loopw [6] (fun kv wr => ∃ (j : Nat) (ls : List C), mt ≤ j ∧ j ≤ m ∧ kv = .int .i64 j ∧ wr.ownsRow X.heap.size 68 3 (.slice A1 n c1) n (flatC ls) ∧ Hid (setR ls (tr.drop j) = setR l (tr.drop mt)) ∧ Hid ((∀ c ∈ ls, c.wf) ∧ ls.length = n) ∧ Below X.heap.size X wr) (fun kv _ => m - (intOf kv).toNat)
  case atStart => exact ⟨mt, l, Nat.le_refl _, hmt, rfl, Ho1.out, Lib.hid rfl, Lib.hid ⟨HC.out.wf, Hl.out⟩, Hb1.out⟩
  case round =>
    clear u0 u1 u2 ul v0 v1 v2 vl Ho1 Hb1
    obtain ⟨j, ls, hj1, hj2, rfl, hown, hres, hls, hb⟩ := hrel
    by_cases hltm : j < m
    · obtain ⟨t, ht⟩ := HT.out.get hltm
      obtain ⟨p, rfl, hpn⟩ := Hat.out t (by rw [List.mem_iff_getElem?]; exact ⟨j - mt, by rw [List.getElem?_drop, show mt + (j - mt) = j by omega]; exact ht⟩)
      obtain ⟨b, off, rfl, hbb, hwf, q0⟩ := HT.out.at_ ht
      have q0' := ((HbX.out.trans (hb.mono hwB)).cell (p := ⟨b, off + j, none⟩) hbb).trans q0
      have hbr : b < wr.heap.size := Nat.lt_of_lt_of_le hbb (HbX.out.trans (hb.mono hwB)).size
      have f0 := (hb.block g0 hg0b).trans x0
      obtain ⟨u0, u1, u2, ul⟩ := open3 f0
      have hd := drop_get ht
      have Hd := Lib.hid hd
      have hownd : wr.drew.ownsRow X.heap.size 68 3 (.slice A1 n c1) n (flatC ls) := hown
      obtain ⟨ga, rfl, r1, r2, r3, r4, r5, r6, r7⟩ := own_put3 (i := p) (refC p) hownd hpn
      unfold maxLen at r4
      obtain ⟨c0, k0⟩ := r6 0 (by omega)
      obtain ⟨c1', k1⟩ := r6 1 (by omega)
      obtain ⟨c2, k2⟩ := r6 2 (by omega)
      rw [Nat.add_zero] at k0
      have ff0 := r5 (p * 3)
      have ff1 := r5 (p * 3 + 1)
      have ff2 := r5 (p * 3 + 2)
      have R7 := Lib.hid r7
      have HbS := Lib.hid ((((hb.drew).setCell r1 (.int .i64 1) (p := ⟨ga, p * 3, none⟩)).setCell r1 (.string ⟨#[]⟩) (p := ⟨ga, p * 3 + 1, none⟩)).setCell r1 (.int .i64 (p : Int)) (p := ⟨ga, p * 3 + 2, none⟩))
      have hpK : (p : Int) < (n : Int) := by omega
      have hg0a : ¬ g0 = ga := by omega
      have hba : ¬ b = ga := by omega
      clear r5 r6 r7 hown hownd ht hd hb q0
      go_upto_region 5 with fail
      refine wp_region_held_drew (S := fun w' => w'.cell? ⟨g0, 1, none⟩ = some (.slice (some ⟨b, off, none⟩) m d) ∧ w'.cell? ⟨b, off + j, none⟩ = some (.int .i64 (p : Int))) (by kernel_rfl) ?gs5 ?gr5
      case gs5 => exact ⟨u1, q0'⟩
      case gr5 =>
        intro hHeld
        clear u0 u1 u2 ul q0' f0
        generalize wr.drew = V at *

        refine takeH 0 hHeld ?_
        try simp only [Act.put, List.setIfInBounds_toArray, List.set_cons_zero, List.set_cons_succ]
        refine takeH 1 hHeld ?_
        try simp only [Act.put, List.setIfInBounds_toArray, List.set_cons_zero, List.set_cons_succ]
        refine takeH 2 hHeld ?_
        try simp only [Act.put, List.setIfInBounds_toArray, List.set_cons_zero, List.set_cons_succ]
        refine takeH 3 hHeld ?_
        try simp only [Act.put, List.setIfInBounds_toArray, List.set_cons_zero, List.set_cons_succ]
        refine takeH 4 hHeld ?_
        try simp only [Act.put, List.setIfInBounds_toArray, List.set_cons_zero, List.set_cons_succ]
        refine takeH 5 hHeld ?_
        try simp only [Act.put, List.setIfInBounds_toArray, List.set_cons_zero, List.set_cons_succ]
        refine takeH 6 hHeld ?_
        try simp only [Act.put, List.setIfInBounds_toArray, List.set_cons_zero, List.set_cons_succ]
        refine takeH 7 hHeld ?_
        try simp only [Act.put, List.setIfInBounds_toArray, List.set_cons_zero, List.set_cons_succ]
        refine takeH 8 hHeld ?_
        try simp only [Act.put, List.setIfInBounds_toArray, List.set_cons_zero, List.set_cons_succ]
        refine takeH 9 hHeld ?_
        try simp only [Act.put, List.setIfInBounds_toArray, List.set_cons_zero, List.set_cons_succ]
        refine takeH 10 hHeld ?_
        try simp only [Act.put, List.setIfInBounds_toArray, List.set_cons_zero, List.set_cons_succ]
        refine takeH 11 hHeld ?_
        try simp only [Act.put, List.setIfInBounds_toArray, List.set_cons_zero, List.set_cons_succ]
        refine takeH 12 hHeld ?_
        try simp only [Act.put, List.setIfInBounds_toArray, List.set_cons_zero, List.set_cons_succ]
        refine held_one (i := 13) (o := ?oi13u14) (by kernel_rfl) ?hi13u14 (fun K hK => ?rest13u14)
        case hi13u14 => (simp only [List.getElem?_toArray, List.getElem?_cons_succ, List.getElem?_cons_zero]; exact rfl)
        go_simp
        have hHeld8 : (fun w' : World => w'.cell? ⟨g0, 1, none⟩ = some (.slice (some ⟨b, off, none⟩) m d) ∧ w'.cell? ⟨b, off + j, none⟩ = some (.int .i64 (p : Int))) (((V.setCell ⟨ga, p * 3, none⟩ (.int .i64 1)).setCell ⟨ga, p * 3 + 1, none⟩ (.string ⟨#[]⟩)).setCell ⟨ga, p * 3 + 2, none⟩ (.int .i64 (p : Int))) := ⟨(by first | (simp [*]; done) | (go_simp; done) | (go_simp; simp [*]; done)), (by first | (simp [*]; done) | (go_simp; done) | (go_simp; simp [*]; done))⟩
        refine hK _ _ hHeld8 ?_
        clear hK K hHeld
        have hHeld := hHeld8
        clear hHeld8
        try simp only [Act.put, List.setIfInBounds_toArray, List.set_cons_zero, List.set_cons_succ]
        refine wpAnyH_done (by kernel_rfl) ?_ _
        clear hHeld k0 k1 k2 ff0 ff1 ff2
        go_wp2
        go_roundw
        case rel =>
          refine ⟨j + 1, ls.set p (refC p), by omega, by omega, by go_num, R7.out, ?_, ?_, HbS.out⟩
          · have := hres.out
            rw [Hd.out] at this
            have e : setR ls ((p : Int) :: tr.drop (j + 1)) = setR (ls.set p (refC p)) (tr.drop (j + 1)) := rfl
            exact Lib.hid (e.symm.trans this)
          · exact Lib.hid ⟨set_wf hls.out.1 (refC_wf (by omega)), by rw [List.length_set]; exact hls.out.2⟩
        case measure => simp [intOf]; omega
    · have hkK : j = m := by omega
      have hfin : Hid (ls = setR l (tr.drop mt)) := Lib.hid (by
        have h1 := hres.out
        rw [List.drop_of_length_le (by rw [Htl.out]; omega)] at h1
        exact h1)
      have f0 := (hb.block g0 hg0b).trans x0
      have f1 := (hb.block g1 hg1b).trans x1
      have f2 := (hb.block g2 hg2b).trans x2
      obtain ⟨u0, u1, u2, ul⟩ := open3 f0
      obtain ⟨v0, v1, v2, vl⟩ := open3 f1
      have hsl := Sl.own hown (by omega)
      have hc1 := hsl.hcap
      have hc2 := hsl.hmax
      unfold maxLen at hc2
      have hIC : IsC wr A1 mc c1 (ls.take mc) := IsC.take ⟨hsl, hls.out.1⟩ hmc
      have HIC := Lib.hid hIC
      have HbR := Lib.hid (HbX.out.trans (hb.mono hwB))
      have HIT := Lib.hid ((HT.out.take hmt).below HbR.out)
      have hNA : Hid (∀ a, A1 = some a → a.block ≠ g2) := Lib.hid (own_ne hown f2 (by intro cur he; simp at he))
      have hF2 : Hid (wr.drew.heap[g2]? = some (.cells #[.slice none 0 0, .slice none 0 0, .int .i64 0] 25 (0, 0))) := Lib.hid f2
      have hICd : IsC wr.drew A1 mc c1 (ls.take mc) := hIC.drewN 1
      have HICd := Lib.hid hICd
      have HbRd := Lib.hid (HbR.out.drew)
      clear f0 f1 f2 hown hsl hIC hICd hb hres hls
      go_upto_region 6 with fail
      refine wp_region_held_drew (S := fun w' => w'.cell? ⟨g0, 1, none⟩ = some (.slice B m d) ∧ w'.cell? ⟨g0, 2, none⟩ = some (.int .i64 r) ∧ w'.cell? ⟨g1, 0, none⟩ = some (.int .i64 mc) ∧ w'.cell? ⟨g1, 1, none⟩ = some (.int .i64 mt)) (by kernel_rfl) ?gs ?gr
      case gs => simp [*]
      case gr =>
        intro hHeld
        have hg2d : g2 < wr.drew.heap.size := block_lt hF2.out
        clear u0 u1 u2 ul v0 v1 v2 vl
        generalize wr.drew = V at *
        obtain ⟨w0, w1, w2, wl⟩ := open3 hF2.out
        have hmcc : mc ≤ c1 := by omega
        have hmtd : mt ≤ d := by omega
        have wf0 := frozen_of hF2.out 0
        have wf1 := frozen_of hF2.out 1
        have wf2 := frozen_of hF2.out 2

        refine takeH 0 hHeld ?_
        try simp only [Act.put, List.setIfInBounds_toArray, List.set_cons_zero, List.set_cons_succ]
        refine takeH 1 hHeld ?_
        try simp only [Act.put, List.setIfInBounds_toArray, List.set_cons_zero, List.set_cons_succ]
        refine takeH 2 hHeld ?_
        try simp only [Act.put, List.setIfInBounds_toArray, List.set_cons_zero, List.set_cons_succ]
        refine takeH 3 hHeld ?_
        try simp only [Act.put, List.setIfInBounds_toArray, List.set_cons_zero, List.set_cons_succ]
        refine takeH 4 hHeld ?_
        try simp only [Act.put, List.setIfInBounds_toArray, List.set_cons_zero, List.set_cons_succ]
        refine takeH 5 hHeld ?_
        try simp only [Act.put, List.setIfInBounds_toArray, List.set_cons_zero, List.set_cons_succ]
        refine takeH 6 hHeld ?_
        try simp only [Act.put, List.setIfInBounds_toArray, List.set_cons_zero, List.set_cons_succ]
        refine takeH 7 hHeld ?_
        try simp only [Act.put, List.setIfInBounds_toArray, List.set_cons_zero, List.set_cons_succ]
        refine takeH 8 hHeld ?_
        try simp only [Act.put, List.setIfInBounds_toArray, List.set_cons_zero, List.set_cons_succ]
        refine takeH 9 hHeld ?_
        try simp only [Act.put, List.setIfInBounds_toArray, List.set_cons_zero, List.set_cons_succ]
        refine takeH 10 hHeld ?_
        try simp only [Act.put, List.setIfInBounds_toArray, List.set_cons_zero, List.set_cons_succ]
        refine takeH 11 hHeld ?_
        try simp only [Act.put, List.setIfInBounds_toArray, List.set_cons_zero, List.set_cons_succ]
        refine held_one (i := 12) (o := ?oi12u27) (by kernel_rfl) ?hi12u27 (fun K hK => ?rest12u27)
        case hi12u27 => (simp only [List.getElem?_toArray, List.getElem?_cons_succ, List.getElem?_cons_zero]; exact rfl)
        go_simp
        have hHeld8 : (fun w' : World => w'.cell? ⟨g0, 1, none⟩ = some (.slice B m d) ∧ w'.cell? ⟨g0, 2, none⟩ = some (.int .i64 r) ∧ w'.cell? ⟨g1, 0, none⟩ = some (.int .i64 mc) ∧ w'.cell? ⟨g1, 1, none⟩ = some (.int .i64 mt)) (((V.setCell ⟨g2, 0, none⟩ (.slice A1 mc c1)).setCell ⟨g2, 1, none⟩ (.slice B mt d)).setCell ⟨g2, 2, none⟩ (.int .i64 r)) := ⟨(by first | (simp [*]; done) | (go_simp; done) | (go_simp; simp [*]; done)), (by first | (simp [*]; done) | (go_simp; done) | (go_simp; simp [*]; done)), (by first | (simp [*]; done) | (go_simp; done) | (go_simp; simp [*]; done)), (by first | (simp [*]; done) | (go_simp; done) | (go_simp; simp [*]; done))⟩
        refine hK _ _ hHeld8 ?_
        clear hK K hHeld
        have hHeld := hHeld8
        clear hHeld8
        try simp only [Act.put, List.setIfInBounds_toArray, List.set_cons_zero, List.set_cons_succ]
        refine wpAnyH_done (by kernel_rfl) ?_ _
        have hkF : Kq g2 V (((V.setCell ⟨g2, 0, none⟩ (.slice A1 mc c1)).setCell ⟨g2, 1, none⟩ (.slice B mt d)).setCell ⟨g2, 2, none⟩ (.int .i64 r)) := ((Kq.set V 0 _).trans (Kq.set _ 1 _)).trans (Kq.set _ 2 _)
        have hIF := HICd.out.kq hkF hNA.out
        have hbF := HbRd.out.trans (hkF.bel.mono hg2w')
        have hTF := (HT.out.take hmt).below hbF
        have q0 : (((V.setCell ⟨g2, 0, none⟩ (.slice A1 mc c1)).setCell ⟨g2, 1, none⟩ (.slice B mt d)).setCell ⟨g2, 2, none⟩ (.int .i64 r)).cell? ⟨g2, 0, none⟩ = some (.slice A1 mc c1) := (by first | (simp [*]; done) | (go_simp; done) | (go_simp; simp [*]; done))
        have q1 : (((V.setCell ⟨g2, 0, none⟩ (.slice A1 mc c1)).setCell ⟨g2, 1, none⟩ (.slice B mt d)).setCell ⟨g2, 2, none⟩ (.int .i64 r)).cell? ⟨g2, 1, none⟩ = some (.slice B mt d) := (by first | (simp [*]; done) | (go_simp; done) | (go_simp; simp [*]; done))
        have q2 : (((V.setCell ⟨g2, 0, none⟩ (.slice A1 mc c1)).setCell ⟨g2, 1, none⟩ (.slice B mt d)).setCell ⟨g2, 2, none⟩ (.int .i64 r)).cell? ⟨g2, 2, none⟩ = some (.int .i64 r) := (by first | (simp [*]; done) | (go_simp; done) | (go_simp; simp [*]; done))
        have HIF := Lib.hid hIF
        have HbF := Lib.hid hbF
        have HTF := Lib.hid hTF
        clear hkF hIF hbF hTF hHeld
        generalize (((V.setCell ⟨g2, 0, none⟩ (.slice A1 mc c1)).setCell ⟨g2, 1, none⟩ (.slice B mt d)).setCell ⟨g2, 2, none⟩ (.int .i64 r)) = F at *
        go_wp2
        refine bodyPost_ret (v := .agg #[.slice A1 mc c1, .slice B mt d, .int .i64 r]) (by simp [results, Try.results30, go_sem, *]) rfl ?_
        rw [← HU.out]
        have hl9 : undoR l tr mc mt = ls.take mc := by unfold undoR; rw [hfin.out]
        refine ⟨A1, mc, c1, B, mt, d, rfl, ?_, HTF.out, HbF.out⟩
        show IsC F A1 mc c1 (undoR l tr mc mt)
        rw [hl9]
        exact HIF.out
end Go.Proofs.Ytlndjooddkjnoaa
