/- Texts of this proof that belong together: words of memory, plain laws, short walks. -/
import Derived.Test.YtlndjooddkjnoaaHM3
import Derived.Test.YtlndjooddkjnoaaB6
set_option linter.unusedVariables false
set_option linter.unusedSimpArgs false
/- The walk of the document's Put. -/
namespace Go.Proofs.Ytlndjooddkjnoaa
open Go.RowKit

set_option maxRecDepth 100000 in
set_option maxHeartbeats 8000000 in
theorem qPut_f (s : ByteArray) (us : List Tm) (A B D At : Option Addr) (n c m d p e k kc : Nat) (r : Int) (l : List C) (a : List Int) (w : World) (h : IsC w A n c l) (ht : IsC w At k kc (Tm.f s us).flat) (hD : IsI w D p e a)
    (hT : (Tm.f s us).ok = true) (hTs : (Tm.f s us).size ≤ 200) (hn : n ≤ 50000) (hp : p ≤ 50000) :
    Calls Try.prog 20 #[.agg #[.slice A n c, .slice B m d, .int .i64 r], .slice At k kc, .slice D p e] w (RetPut w A B n c m d r (putA l (.f s us) a)) := by
  have hnl := h.len
  have hpl := hD.len
  generalize hPR : putA l (.f s us) a = PR
  have HPR := Lib.hid hPR
  clear hPR
  obtain ⟨b0, off0, rfl, hb00, e0, e1, e2, hn0⟩ := ht.tm0
  have hn0' : (0 : Int) < (k : Int) := by omega
  simp only [Tm.c0] at e0 e1 e2
  have HC := Lib.hid h
  have HD := Lib.hid hD
  have HT := Lib.hid ht
  clear h hD ht
  go_enter Try.func20, Try.ntmps20
  go_upto_region 1 with fail
  refine wp_world' (Φ := fun X => Below w.heap.size w X ∧ X.heap.size = w.heap.size + 2 ∧ X.heap[w.heap.size]? = some (.cells #[.slice A n c, .slice B m d, .int .i64 r] 25 (0, 0)) ∧ X.heap[w.heap.size + 1]? = some (.cells #[.slice none 0 0, .slice none 0 0, .int .i64 0] 25 (0, 0)))
    ⟨((Below.refl _ _).alloc (Nat.le_refl _) _).alloc (by first | omega | (simp; done) | (simp; omega)) _, (by first | omega | (simp; done) | (simp; omega)), (alloc_past (by first | omega | (simp; done) | (simp; omega))).trans (alloc_at rfl), alloc_at (by first | omega | (simp; done) | (simp; omega))⟩ ?_
  rintro X ⟨hbX, hX1, x0, x1⟩
  obtain ⟨g0, hg0⟩ : ∃ g0, g0 = w.heap.size := ⟨_, rfl⟩
  obtain ⟨g1, hg1⟩ : ∃ g1, g1 = w.heap.size + 1 := ⟨_, rfl⟩
  rw [← hg1] at x1 ⊢
  rw [← hg0] at x0 ⊢
  have HbX := Lib.hid hbX
  have hg0b : g0 < X.heap.size := by omega
  have hg1b : g1 < X.heap.size := by omega
  have hg0w' : w.heap.size ≤ g0 := by omega
  have hg1w' : w.heap.size ≤ g1 := by omega
  have hg01' : ¬ g0 = g1 := by omega
  have hwB : w.heap.size ≤ X.heap.size := by omega
  obtain ⟨y0, y1, y2, yl⟩ := open3 x0
  clear hX1 hg0 hg1 hbX
  have hRC := Lib.hid (fun (o : Obj) => HC.out.sl.below (HbX.out.alloc hwB o))
  go_upto_region 2 with (first
    | (at_builtin; have hfirst := hRC; go_must (refine wpList_append_sl rfl (.tmp 12) (.tmp 14) 22 rfl X.heap.size 68 Try.underlying22 infoS rfl (by omega) rfl (World.ownsRow_lit X #[] 0 (Nat.le_refl _) (by simp [maxLen]) rfl) rfl (hRC.out _) (oneC l) (by omega) (by omega) (by simp) ?_); go_must (intro A1 c1 w1 hown1 hb1' _ _; have ho1 : w1.ownsRow X.heap.size 68 3 (.slice A1 n c1) n (flatC l) := (by simpa using hown1)); go_must (have hb1 : Below X.heap.size X w1 := ((Below.refl _ _).alloc (Nat.le_refl _) _).trans hb1'; have hx1 := (hb1.block g0 hg0b).trans x0; clear hfirst hRC hown1 hb1'))
    | (at_builtin; go_must (refine wpList_append_sl rfl (.tmp 16) (.tmp 17) 23 rfl w1.heap.size 3 Try.underlying23 infoI rfl (by omega) rfl (World.ownsRow_lit w1 #[] 0 (Nat.le_refl _) (by simp [maxLen]) rfl) rfl (HD.out.sl.below (HbX.out.trans ((hb1.alloc hb1.size _).mono hwB))) (oneI _ a) (by omega) (by omega) (by simp) ?_); intro D1 d1 w2 hown2 hb2' _ _; have ho2 : w2.ownsRow w1.heap.size 3 1 (.slice D1 p d1) p (a.map (Value.int .i64)) := (by simpa using hown2); have hb2 : Below w1.heap.size w1 w2 := ((Below.refl _ _).alloc (Nat.le_refl _) _).trans hb2'; clear hown2 hb2'))
  obtain ⟨bl, hbl⟩ : ∃ bl, bl = w2.heap.size := ⟨_, rfl⟩
  have hs1 := hb1.size
  have hs2 := hb2.size
  rw [← hbl]
  refine wp_world' (Φ := fun Y => Below X.heap.size X Y ∧ Ly Y X.heap.size bl 83 l a ∧ Y.cell? ⟨bl, 0, none⟩ = some (.slice A1 n c1)) ⟨?_, ⟨⟨A1, n, c1, D1, p, d1, by omega, alloc_at hbl.symm, .inr ?_, .inr ?_⟩, HC.out.wf, HD.out.wf⟩, cells_of (alloc_at hbl.symm) 0⟩ ?_
  · exact (hb1.trans (hb2.mono hs1)).alloc (by omega) _
  · exact ((own_below ho1 hb2).alloc _)
  · exact (own_lower ho2 hs1).alloc _
  rintro Y ⟨hbY, hLY, q0⟩
  have hbl2 : X.heap.size ≤ bl := by omega
  have hYb := (hbY.block g0 hg0b).trans x0
  have hbYw := HbX.out.trans (hbY.mono hwB)
  have e0' := (hbYw.cell (p := ⟨b0, off0, none⟩) hb00).trans e0
  have hb0Y : b0 < Y.heap.size := Nat.lt_of_lt_of_le hb00 hbYw.size
  have hYX : X.heap.size ≤ Y.heap.size := hbY.size
  have hlY := hLY.lt.2
  clear ho1 ho2 hb1 hb2 hx1 hs1 hs2 hbl e0
  have hwh := mfun_any w X.heap.size bl hwB (Tm.f s us).size (Tm.f s us) l a (some ⟨b0, off0, none⟩) k kc Y (Nat.le_refl _) rfl HT.out hbYw hLY hT hTs (by have := hs_size (.f s us); omega) (by omega) hYX
  have Hwh := Lib.hid hwh
  have HbY := Lib.hid hbY
  clear hwh hbY hLY hYb hbYw
  go_upto_region 8 with (first
    | (go_at_call 56; go_must (refine Hwh.out.mono ?_); rintro e Z ⟨rfl, hLz, hbz0, hkz⟩))
  have hbz := HbY.out.trans hbz0
  have hputA : putA l (.f s us) a = (l ++ (layA (.f s us) l.length a).1, l.length, (layA (.f s us) l.length a).2) := rfl
  have hLlen : (l ++ (layA (.f s us) l.length a).1).length ≤ 100000 := by have := hs_size (.f s us); simp [layA_len]; omega
  have HPL : Hid (PR = (l ++ (layA (.f s us) l.length a).1, l.length, (layA (.f s us) l.length a).2)) := Lib.hid (HPR.out.symm.trans hputA)
  clear HPR hputA Hwh
  generalize l ++ (layA (.f s us) l.length a).1 = L at *
  generalize (layA (.f s us) l.length a).2 = b at *
  clear hbz0 hkz e0' hb0Y q0 hlY
  obtain ⟨A2, n2, c2, B2, m2, d2, p1, p2, p3, p4⟩ := hLz.has
  have hlz := own0_len p3
  rw [flatC_len] at hlz
  have HlenL : Hid (L.length = n2) := Lib.hid (by omega)
  have hn2 : n2 ≤ 100000 := by omega
  obtain ⟨r0, r1, rl⟩ := open2 p2
  have z0 := (hbz.block g0 hg0b).trans x0
  have z1 := (hbz.block g1 hg1b).trans x1
  obtain ⟨u0, u1, u2, ul⟩ := open3 z0
  obtain ⟨v0, v1, v2, vl⟩ := open3 z1
  have P3 := Lib.hid p3
  have P4 := Lib.hid p4
  have Wfc := Lib.hid hLz.wfc
  have Wfi := Lib.hid hLz.wfi
  have Nc0 := Lib.hid (own0_ne p3 z0 (by intro cur he; simp at he))
  have Nc1 := Lib.hid (own0_ne p3 z1 (by intro cur he; simp at he))
  have Ni0 := Lib.hid (own0_ne p4 z0 (by intro cur he; simp at he))
  have Ni1 := Lib.hid (own0_ne p4 z1 (by intro cur he; simp at he))
  have Hbw := Lib.hid (HbX.out.trans (hbz.mono hwB))
  have hwZ := Hbw.out.size
  have uf0 := frozen_of z0 0
  have vf0 := frozen_of z1 0
  have vf1 := frozen_of z1 1
  have vf2 := frozen_of z1 2
  have hg0w : w.heap.size ≤ g0 := hg0w'
  have hg1w : w.heap.size ≤ g1 := hg1w'
  have hg01 : ¬ g0 = g1 := hg01'
  have hg0l : ¬ g0 = bl := by omega
  have hg1l : ¬ g1 = bl := by omega
  clear hlz p2 p3 p4 x0 x1 z0 z1 hbz hLz
  by_cases hfit : (n2 : Int) ≤ r
  · have hd : decide (r < (n2 : Int)) = false := by simp; omega
    have Hfit : Hid (((L.length : Nat) : Int) ≤ r) := Lib.hid (by rw [HlenL.out]; exact hfit)
    clear hfit
    go_upto_region 8 with fail
    go_quiet (fail)
    go_upto_region 10 with fail
    refine wp_world' (Φ := fun V => V.cell? ⟨bl, 0, none⟩ = some (.slice A2 n2 c2) ∧ V.cell? ⟨g0, 1, none⟩ = some (.slice B m d) ∧ V.cell? ⟨g0, 2, none⟩ = some (.int .i64 r) ∧ V.cell? ⟨bl, 1, none⟩ = some (.slice B2 m2 d2) ∧
      V.cell? ⟨g1, 0, none⟩ = some (.slice none 0 0) ∧ V.cell? ⟨g1, 1, none⟩ = some (.slice none 0 0) ∧ V.cell? ⟨g1, 2, none⟩ = some (.int .i64 0) ∧ V.frozen? ⟨g1, 0, none⟩ = false ∧ V.frozen? ⟨g1, 1, none⟩ = false ∧ V.frozen? ⟨g1, 2, none⟩ = false ∧
      (∀ g, g ≠ g0 → V.heap[g]? = Z.heap[g]?) ∧ Below w.heap.size w V ∧ g1 < V.heap.size) ⟨(by first | (simp [*]; done) | (go_simp; done) | (go_simp; simp [*]; done)), (by first | (simp [*]; done) | (go_simp; done) | (go_simp; simp [*]; done)), (by first | (simp [*]; done) | (go_simp; done) | (go_simp; simp [*]; done)), (by first | (simp [*]; done) | (go_simp; done) | (go_simp; simp [*]; done)), (by first | (simp [*]; done) | (go_simp; done) | (go_simp; simp [*]; done)), (by first | (simp [*]; done) | (go_simp; done) | (go_simp; simp [*]; done)), (by first | (simp [*]; done) | (go_simp; done) | (go_simp; simp [*]; done)), (by first | (simp [*]; done) | (go_simp; done) | (go_simp; simp [*]; done)), (by first | (simp [*]; done) | (go_simp; done) | (go_simp; simp [*]; done)), (by first | (simp [*]; done) | (go_simp; done) | (go_simp; simp [*]; done)), fun g hg => by simp, below_drewN Hbw.out _, by simpa using vl⟩ ?_
    rintro V ⟨s0, s1, s2, s3, t0, t1, t2, f0, f1, f2, hVo, hVb, hV1⟩
    have HVo := Lib.hid hVo
    have HVb := Lib.hid hVb
    clear hVo hVb u0 u1 u2 ul v0 v1 v2 vl uf0 vf0 vf1 vf2 r0 r1 rl
    refine wp_region_held_drew (S := fun w' => w'.cell? ⟨bl, 0, none⟩ = some (.slice A2 n2 c2) ∧ w'.cell? ⟨g0, 1, none⟩ = some (.slice B m d) ∧ w'.cell? ⟨g0, 2, none⟩ = some (.int .i64 r) ∧ w'.cell? ⟨bl, 1, none⟩ = some (.slice B2 m2 d2)) (by kernel_rfl) ?gs ?gr
    case gs => simp [*]
    case gr =>
      intro hHeld
      have hbV : Below w.heap.size w V.drew := HVb.out.drew
      have hoV : ∀ g, g ≠ g0 → V.drew.heap[g]? = Z.heap[g]? := HVo.out
      have t0' : V.drew.cell? ⟨g1, 0, none⟩ = some (.slice none 0 0) := t0
      have t1' : V.drew.cell? ⟨g1, 1, none⟩ = some (.slice none 0 0) := t1
      have t2' : V.drew.cell? ⟨g1, 2, none⟩ = some (.int .i64 0) := t2
      have f0' : V.drew.frozen? ⟨g1, 0, none⟩ = false := f0
      have f1' : V.drew.frozen? ⟨g1, 1, none⟩ = false := f1
      have f2' : V.drew.frozen? ⟨g1, 2, none⟩ = false := f2
      have hV1' : g1 < V.drew.heap.size := hV1
      have HbV := Lib.hid hbV
      have HoV := Lib.hid hoV
      clear hbV hoV t0 t1 t2 f0 f1 f2 hV1 s0 s1 s2 s3 HVo HVb
      generalize V.drew = U at *
      refine takeH 0 hHeld ?_
      try simp only [Act.put, List.setIfInBounds_toArray, List.set_cons_zero, List.set_cons_succ]
      refine takeH 1 hHeld ?_
      try simp only [Act.put, List.setIfInBounds_toArray, List.set_cons_zero, List.set_cons_succ]
      refine takeH 2 hHeld ?_
      try simp only [Act.put, List.setIfInBounds_toArray, List.set_cons_zero, List.set_cons_succ]
      refine takeH 3 hHeld ?_
      try simp only [Act.put, List.setIfInBounds_toArray, List.set_cons_zero, List.set_cons_succ]
      refine takeH 4 hHeld ?_
      try simp only [Act.put, List.setIfInBounds_toArray, List.set_cons_zero, List.set_cons_succ]
      refine takeH 5 hHeld ?_
      try simp only [Act.put, List.setIfInBounds_toArray, List.set_cons_zero, List.set_cons_succ]
      refine takeH 6 hHeld ?_
      try simp only [Act.put, List.setIfInBounds_toArray, List.set_cons_zero, List.set_cons_succ]
      refine takeH 7 hHeld ?_
      try simp only [Act.put, List.setIfInBounds_toArray, List.set_cons_zero, List.set_cons_succ]
      refine takeH 8 hHeld ?_
      try simp only [Act.put, List.setIfInBounds_toArray, List.set_cons_zero, List.set_cons_succ]
      refine takeH 9 hHeld ?_
      try simp only [Act.put, List.setIfInBounds_toArray, List.set_cons_zero, List.set_cons_succ]
      refine takeH 10 hHeld ?_
      try simp only [Act.put, List.setIfInBounds_toArray, List.set_cons_zero, List.set_cons_succ]
      refine takeH 11 hHeld ?_
      try simp only [Act.put, List.setIfInBounds_toArray, List.set_cons_zero, List.set_cons_succ]
      refine takeH 12 hHeld ?_
      try simp only [Act.put, List.setIfInBounds_toArray, List.set_cons_zero, List.set_cons_succ]
      refine takeH 13 hHeld ?_
      try simp only [Act.put, List.setIfInBounds_toArray, List.set_cons_zero, List.set_cons_succ]
      refine held_one (i := 14) (o := ?oi14u15) (by kernel_rfl) ?hi14u15 (fun K hK => ?rest14u15)
      case hi14u15 => (simp only [List.getElem?_toArray, List.getElem?_cons_succ, List.getElem?_cons_zero]; exact rfl)
      go_simp
      have hHeld8 : (fun w' : World => w'.cell? ⟨bl, 0, none⟩ = some (.slice A2 n2 c2) ∧ w'.cell? ⟨g0, 1, none⟩ = some (.slice B m d) ∧ w'.cell? ⟨g0, 2, none⟩ = some (.int .i64 r) ∧ w'.cell? ⟨bl, 1, none⟩ = some (.slice B2 m2 d2)) (((U.setCell ⟨g1, 0, none⟩ (.slice A2 n2 c2)).setCell ⟨g1, 1, none⟩ (.slice B m d)).setCell ⟨g1, 2, none⟩ (.int .i64 r)) := ⟨(by first | (simp [*]; done) | (go_simp; done) | (go_simp; simp [*]; done)), (by first | (simp [*]; done) | (go_simp; done) | (go_simp; simp [*]; done)), (by first | (simp [*]; done) | (go_simp; done) | (go_simp; simp [*]; done)), (by first | (simp [*]; done) | (go_simp; done) | (go_simp; simp [*]; done))⟩
      refine hK _ _ hHeld8 ?_
      clear hK K hHeld
      have hHeld := hHeld8
      clear hHeld8
      try simp only [Act.put, List.setIfInBounds_toArray, List.set_cons_zero, List.set_cons_succ]
      refine takeH 15 hHeld ?_
      try simp only [Act.put, List.setIfInBounds_toArray, List.set_cons_zero, List.set_cons_succ]
      refine takeH 16 hHeld ?_
      try simp only [Act.put, List.setIfInBounds_toArray, List.set_cons_zero, List.set_cons_succ]
      refine takeH 17 hHeld ?_
      try simp only [Act.put, List.setIfInBounds_toArray, List.set_cons_zero, List.set_cons_succ]
      refine wpAnyH_done (by kernel_rfl) ?_ _
      have hbF : Below w.heap.size w (((U.setCell ⟨g1, 0, none⟩ (.slice A2 n2 c2)).setCell ⟨g1, 1, none⟩ (.slice B m d)).setCell ⟨g1, 2, none⟩ (.int .i64 r)) := ((HbV.out.setCell hg1w _).setCell hg1w _).setCell hg1w _
      have hoF : ∀ g, g ≠ g0 → g ≠ g1 → (((U.setCell ⟨g1, 0, none⟩ (.slice A2 n2 c2)).setCell ⟨g1, 1, none⟩ (.slice B m d)).setCell ⟨g1, 2, none⟩ (.int .i64 r)).heap[g]? = Z.heap[g]? := fun g h1 h2 => (set_other h2 _).trans ((set_other h2 _).trans ((set_other h2 _).trans (HoV.out g h1)))
      have hcF := own0_at P3.out (fun hc a ha => hoF _ (Nc0.out hc a ha) (Nc1.out hc a ha))
      have hiF := own0_at P4.out (fun hc a ha => hoF _ (Ni0.out hc a ha) (Ni1.out hc a ha))
      have HIC := Lib.hid (Ly.isC hcF Wfc.out)
      have HII := Lib.hid (Ly.isI hiF Wfi.out)
      have HFr := Lib.hid (fun (h0 : m2 ≠ 0) a ha => Nat.le_trans hwB (own0_low hiF h0 a ha))
      have HbF := Lib.hid hbF
      have w0 : (((U.setCell ⟨g1, 0, none⟩ (.slice A2 n2 c2)).setCell ⟨g1, 1, none⟩ (.slice B m d)).setCell ⟨g1, 2, none⟩ (.int .i64 r)).cell? ⟨g1, 0, none⟩ = some (.slice A2 n2 c2) := (by first | (simp [*]; done) | (go_simp; done) | (go_simp; simp [*]; done))
      have w1 : (((U.setCell ⟨g1, 0, none⟩ (.slice A2 n2 c2)).setCell ⟨g1, 1, none⟩ (.slice B m d)).setCell ⟨g1, 2, none⟩ (.int .i64 r)).cell? ⟨g1, 1, none⟩ = some (.slice B m d) := (by first | (simp [*]; done) | (go_simp; done) | (go_simp; simp [*]; done))
      have w2 : (((U.setCell ⟨g1, 0, none⟩ (.slice A2 n2 c2)).setCell ⟨g1, 1, none⟩ (.slice B m d)).setCell ⟨g1, 2, none⟩ (.int .i64 r)).cell? ⟨g1, 2, none⟩ = some (.int .i64 r) := (by first | (simp [*]; done) | (go_simp; done) | (go_simp; simp [*]; done))
      clear hbF hoF hcF hiF hHeld
      generalize (((U.setCell ⟨g1, 0, none⟩ (.slice A2 n2 c2)).setCell ⟨g1, 1, none⟩ (.slice B m d)).setCell ⟨g1, 2, none⟩ (.int .i64 r)) = F at *
      go_wp2
      refine bodyPost_ret (v := .tuple #[.agg #[.slice A2 n2 c2, .slice B m d, .int .i64 r], .int .i64 (n : Int), .slice B2 m2 d2, .int .i64 0]) (by simp [results, Try.results20, go_sem, *]) rfl ?_
      unfold RetPut
      rw [HPL.out]
      rw [if_pos (show ((L.length : Nat) : Int) ≤ r from Hfit.out)]
      exact ⟨A2, n2, c2, B2, m2, d2, by rw [hnl], HIC.out, HII.out, HbF.out, HFr.out⟩
  · have hd : decide (r < (n2 : Int)) = true := by simp; omega
    have Hfit : Hid (¬ ((L.length : Nat) : Int) ≤ r) := Lib.hid (by rw [HlenL.out]; exact hfit)
    clear hfit
    go_upto_region 8 with fail
    go_quiet (fail)
    go_wp2
    refine bodyPost_ret (v := .tuple #[.agg #[.slice A n c, .slice B m d, .int .i64 r], .int .i64 0, .slice none 0 0, .int .i64 80]) (by simp [results, Try.results20, go_sem, *]) rfl ?_
    unfold RetPut
    rw [HPL.out]
    rw [if_neg (by have h9 := Hfit.out; show ¬ ((L.length : Nat) : Int) ≤ r; omega)]
    exact ⟨rfl, ((((below_drewN Hbw.out _).setCell hg1w _).setCell hg1w _).setCell hg1w _)⟩
end Go.Proofs.Ytlndjooddkjnoaa

/- The walk of the document's Put: a number. -/
namespace Go.Proofs.Ytlndjooddkjnoaa
open Go.RowKit

set_option maxRecDepth 100000 in
set_option maxHeartbeats 8000000 in
theorem qPut_i (x : Int) (A B D At : Option Addr) (n c m d p e k kc : Nat) (r : Int) (l : List C) (a : List Int) (w : World) (h : IsC w A n c l) (ht : IsC w At k kc (Tm.i x).flat) (hD : IsI w D p e a)
    (hT : (Tm.i x).ok = true) (hn : n ≤ 50000) (hp : p ≤ 50000) :
    Calls Try.prog 20 #[.agg #[.slice A n c, .slice B m d, .int .i64 r], .slice At k kc, .slice D p e] w (RetPut w A B n c m d r (putA l (.i x) a)) := by
  have hnl := h.len
  have hpl := hD.len
  generalize hPR : putA l (.i x) a = PR
  have HPR := Lib.hid hPR
  clear hPR
  obtain ⟨b0, off0, rfl, hb00, e0, e1, e2, hn0⟩ := ht.tm0
  have hn0' : (0 : Int) < (k : Int) := by omega
  simp only [Tm.c0] at e0 e1 e2
  have HC := Lib.hid h
  have HD := Lib.hid hD
  have HT := Lib.hid ht
  clear h hD ht
  go_enter Try.func20, Try.ntmps20
  go_upto_region 1 with fail
  refine wp_world' (Φ := fun X => Below w.heap.size w X ∧ X.heap.size = w.heap.size + 2 ∧ X.heap[w.heap.size]? = some (.cells #[.slice A n c, .slice B m d, .int .i64 r] 25 (0, 0)) ∧ X.heap[w.heap.size + 1]? = some (.cells #[.slice none 0 0, .slice none 0 0, .int .i64 0] 25 (0, 0)))
    ⟨((Below.refl _ _).alloc (Nat.le_refl _) _).alloc (by first | omega | (simp; done) | (simp; omega)) _, (by first | omega | (simp; done) | (simp; omega)), (alloc_past (by first | omega | (simp; done) | (simp; omega))).trans (alloc_at rfl), alloc_at (by first | omega | (simp; done) | (simp; omega))⟩ ?_
  rintro X ⟨hbX, hX1, x0, x1⟩
  obtain ⟨g0, hg0⟩ : ∃ g0, g0 = w.heap.size := ⟨_, rfl⟩
  obtain ⟨g1, hg1⟩ : ∃ g1, g1 = w.heap.size + 1 := ⟨_, rfl⟩
  rw [← hg1] at x1 ⊢
  rw [← hg0] at x0 ⊢
  have HbX := Lib.hid hbX
  have hg0b : g0 < X.heap.size := by omega
  have hg1b : g1 < X.heap.size := by omega
  have hg0w' : w.heap.size ≤ g0 := by omega
  have hg1w' : w.heap.size ≤ g1 := by omega
  have hg01' : ¬ g0 = g1 := by omega
  have hwB : w.heap.size ≤ X.heap.size := by omega
  obtain ⟨y0, y1, y2, yl⟩ := open3 x0
  clear hX1 hg0 hg1 hbX
  have hRC := Lib.hid (fun (o : Obj) => HC.out.sl.below (HbX.out.alloc hwB o))
  go_upto_region 2 with (first
    | (at_builtin; have hfirst := hRC; go_must (refine wpList_append_sl rfl (.tmp 12) (.tmp 14) 22 rfl X.heap.size 68 Try.underlying22 infoS rfl (by omega) rfl (World.ownsRow_lit X #[] 0 (Nat.le_refl _) (by simp [maxLen]) rfl) rfl (hRC.out _) (oneC l) (by omega) (by omega) (by simp) ?_); go_must (intro A1 c1 w1 hown1 hb1' _ _; have ho1 : w1.ownsRow X.heap.size 68 3 (.slice A1 n c1) n (flatC l) := (by simpa using hown1)); go_must (have hb1 : Below X.heap.size X w1 := ((Below.refl _ _).alloc (Nat.le_refl _) _).trans hb1'; have hx1 := (hb1.block g0 hg0b).trans x0; clear hfirst hRC hown1 hb1'))
    | (at_builtin; go_must (refine wpList_append_sl rfl (.tmp 16) (.tmp 17) 23 rfl w1.heap.size 3 Try.underlying23 infoI rfl (by omega) rfl (World.ownsRow_lit w1 #[] 0 (Nat.le_refl _) (by simp [maxLen]) rfl) rfl (HD.out.sl.below (HbX.out.trans ((hb1.alloc hb1.size _).mono hwB))) (oneI _ a) (by omega) (by omega) (by simp) ?_); intro D1 d1 w2 hown2 hb2' _ _; have ho2 : w2.ownsRow w1.heap.size 3 1 (.slice D1 p d1) p (a.map (Value.int .i64)) := (by simpa using hown2); have hb2 : Below w1.heap.size w1 w2 := ((Below.refl _ _).alloc (Nat.le_refl _) _).trans hb2'; clear hown2 hb2'))
  obtain ⟨bl, hbl⟩ : ∃ bl, bl = w2.heap.size := ⟨_, rfl⟩
  have hs1 := hb1.size
  have hs2 := hb2.size
  rw [← hbl]
  refine wp_world' (Φ := fun Y => Below X.heap.size X Y ∧ Ly Y X.heap.size bl 83 l a ∧ Y.cell? ⟨bl, 0, none⟩ = some (.slice A1 n c1)) ⟨?_, ⟨⟨A1, n, c1, D1, p, d1, by omega, alloc_at hbl.symm, .inr ?_, .inr ?_⟩, HC.out.wf, HD.out.wf⟩, cells_of (alloc_at hbl.symm) 0⟩ ?_
  · exact (hb1.trans (hb2.mono hs1)).alloc (by omega) _
  · exact ((own_below ho1 hb2).alloc _)
  · exact (own_lower ho2 hs1).alloc _
  rintro Y ⟨hbY, hLY, q0⟩
  have hbl2 : X.heap.size ≤ bl := by omega
  have hYb := (hbY.block g0 hg0b).trans x0
  have hbYw := HbX.out.trans (hbY.mono hwB)
  have e0' := (hbYw.cell (p := ⟨b0, off0, none⟩) hb00).trans e0
  have hb0Y : b0 < Y.heap.size := Nat.lt_of_lt_of_le hb00 hbYw.size
  have hYX : X.heap.size ≤ Y.heap.size := hbY.size
  have hlY := hLY.lt.2
  clear ho1 ho2 hb1 hb2 hx1 hs1 hs2 hbl e0
  have HbY := Lib.hid hbY
  have cD := q0
  have hLD := hLY
  have hbD := hbY
  have haD : a.length ≤ 100000 := by omega
  clear hbY hLY hYb hbYw
  rename World => D
  go_upto_region 7 with fail
  have hbDw := HbX.out.trans (hbD.mono hwB)
  have hXD : X.heap.size ≤ D.heap.size := hbD.size
  have hb0D : b0 < D.heap.size := Nat.lt_of_lt_of_le hb00 hbDw.size
  have hDd : Below D.heap.size D D.drew := (Below.refl _ _).drew
  have hLDd := hLD.below hDd
  have hone := mone_any w X.heap.size bl l a (Tm.i x) n (some ⟨b0, off0, none⟩) k kc D.drew HT.out hbDw.drew hwB hLDd hT (by omega) haD hXD
  have Hone := Lib.hid hone
  have HbD := Lib.hid (hbD.trans (hDd.mono hXD))
  have Hxw := Lib.hid (slotA_wf hT (P := n) (q := 0) (by omega) (by omega) hLD.wfi)
  have hlD := hLD.lt.2
  clear hone hLDd hLD hbD hbDw hDd
  refine region_but 13 (fun w' => w'.cell? ⟨bl, 0, none⟩ = some (.slice A1 n c1)) (by kernel_rfl) ?_
  have hHeld : (fun w' : World => w'.cell? ⟨bl, 0, none⟩ = some (.slice A1 n c1)) D.drew := cD
  have hXV : X.heap.size ≤ D.drew.heap.size := hXD
  have hlV : bl < D.drew.heap.size := hlD
  clear cD hXD hb0D hlD
  generalize D.drew = V at *

  refine takeB 0 hHeld ?_
  try simp only [Act.put, List.setIfInBounds_toArray, List.set_cons_zero, List.set_cons_succ]
  refine takeB 1 hHeld ?_
  try simp only [Act.put, List.setIfInBounds_toArray, List.set_cons_zero, List.set_cons_succ]
  refine takeB 2 hHeld ?_
  try simp only [Act.put, List.setIfInBounds_toArray, List.set_cons_zero, List.set_cons_succ]
  refine takeB 3 hHeld ?_
  try simp only [Act.put, List.setIfInBounds_toArray, List.set_cons_zero, List.set_cons_succ]
  refine takeB 4 hHeld ?_
  try simp only [Act.put, List.setIfInBounds_toArray, List.set_cons_zero, List.set_cons_succ]
  refine takeB 5 hHeld ?_
  try simp only [Act.put, List.setIfInBounds_toArray, List.set_cons_zero, List.set_cons_succ]
  refine takeB 6 hHeld ?_
  try simp only [Act.put, List.setIfInBounds_toArray, List.set_cons_zero, List.set_cons_succ]
  refine takeB 7 hHeld ?_
  try simp only [Act.put, List.setIfInBounds_toArray, List.set_cons_zero, List.set_cons_succ]
  refine but_one (i := 8) (o := ?oi8u1) (by kernel_rfl) ?hi8u1 (fun K hK => ?rest8u1)
  case hi8u1 => (simp only [List.getElem?_toArray, List.getElem?_cons_succ, List.getElem?_cons_zero]; exact rfl)
  go_simp
  go_at_call 58
  refine Hone.out.mono ?_
  rintro e w5 ⟨rfl, hL5, hb5, hk5, hs5⟩
  have c50 := hs5.trans hHeld
  have HL5 := Lib.hid hL5
  have Hb5 := Lib.hid hb5
  have hsz5 := hb5.size
  clear hL5 hb5 hk5 hs5
  try go_simp
  have hHeld8 : (fun w' : World => w'.cell? ⟨bl, 0, none⟩ = some (.slice A1 n c1)) w5 := c50
  refine hK _ _ (.inr hHeld8) ?_
  clear hK K hHeld
  have hHeld := hHeld8
  clear hHeld8
  try simp only [Act.put, List.setIfInBounds_toArray, List.set_cons_zero, List.set_cons_succ]
  have hb50 : X.heap.size ≤ w5.heap.size := Nat.le_trans hXV hsz5
  obtain ⟨A2, n2, c2, B2, m2, d2, p1, p2, p3, p4⟩ := HL5.out.has
  obtain ⟨r0, r1, rl⟩ := open2 p2
  have r0' := (c50.symm.trans r0)
  injection r0' with r0'
  injection r0' with i1 i2 i3
  subst i1; subst i2; subst i3
  obtain ⟨cx, hcx⟩ : ∃ cx, cx = (slotA (Tm.i x) n 0 a).1 := ⟨_, rfl⟩
  have Hcx := Lib.hid hcx
  rw [← hcx] at Hxw ⊢
  clear hcx
  obtain ⟨kx, sx, nx_⟩ := cx
  refine but_one (i := 9) (o := ?oi9u2) (by kernel_rfl) ?hi9u2 (fun K hK => ?rest9u2)
  case hi9u2 => (simp only [List.getElem?_toArray, List.getElem?_cons_succ, List.getElem?_cons_zero]; exact rfl)
  have hal2 : Below w5.heap.size w5 (w5.alloc (.cells #[.int .i64 kx, .string sx, .int .i64 nx_] 68)) := (Below.refl _ _).alloc (Nat.le_refl _) _
  try simp only [C.val]
  go_simp
  have hHeld8 : (fun w' : World => w'.cell? ⟨bl, 0, none⟩ = some (.slice A1 n c1)) (w5.alloc (.cells #[.int .i64 kx, .string sx, .int .i64 nx_] 68)) := (hal2.cell (p := ⟨bl, 0, none⟩) rl).trans c50
  refine hK _ _ (.inr hHeld8) ?_
  clear hK K hHeld
  have hHeld := hHeld8
  clear hHeld8
  try simp only [Act.put, List.setIfInBounds_toArray, List.set_cons_zero, List.set_cons_succ]
  refine but_one (i := 10) (o := ?oi10u3) (by kernel_rfl) ?hi10u3 (fun K hK => ?rest10u3)
  case hi10u3 => (simp only [List.getElem?_toArray, List.getElem?_cons_succ, List.getElem?_cons_zero]; exact rfl)
  refine step_append_z (by rfl) (.tmp 58) (.tmp 63) 22 (by rfl) X.heap.size 68 Try.underlying22 infoS (by rfl) (by omega) (by rfl) (xs := flatC l) ?_ (by rfl) (news := [.int .i64 kx, .string sx, .int .i64 nx_]) ?_ (one3 _ _ _) (by omega) (by omega) (by omega) (by simp; omega) ?_
  focus (exact p3.below hal2)
  focus (exact Sl.lit w5 _ [_, _, _] 68 3 1 rfl rfl (by simp [maxLen]))
  intro A9 d9 w9 hown9 hb9 hap9
  obtain ⟨q1, q2, q3⟩ := Ly.grown (.cells #[.int .i64 kx, .string sx, .int .i64 nx_] 68) tLayer_ne.2.2.1 tLayer_ne.2.2.2.1 HL5.out p2 p3 p4 (x := ⟨kx, sx, nx_⟩) Hxw.out hown9 hap9 hb9 hb50
  rw [Hcx.out] at q1
  have Q1 := Lib.hid q1
  have Q2 := Lib.hid q2
  have x9 := (hap9.old bl (by simp; omega) (own0_ne (p3.below hal2) ((alloc_past rl).trans p2) (by intro cur he; injection he with e1 e2 e3; exact tLayer_ne.2.2.1 e2))).trans ((alloc_past rl).trans p2)
  obtain ⟨s0, s1, sl⟩ := open2 x9
  have sf := frozen_of x9 0
  clear q1 q2 q3 x9 hown9 hap9 hb9 p2 p3 p4 r0 r1
  have hHeld8 : (fun w' : World => w'.cell? ⟨bl, 0, none⟩ = some (.slice A1 n c1)) w9 := s0
  refine hK _ _ (.inr hHeld8) ?_
  clear hK K hHeld
  have hHeld := hHeld8
  clear hHeld8
  try simp only [Act.put, List.setIfInBounds_toArray, List.set_cons_zero, List.set_cons_succ]
  refine but_one (i := 11) (o := ?oi11u4) (by kernel_rfl) ?hi11u4 (fun K hK => ?rest11u4)
  case hi11u4 => (simp only [List.getElem?_toArray, List.getElem?_cons_succ, List.getElem?_cons_zero]; exact rfl)
  go_simp
  have hHeld8 : (fun w' : World => w'.cell? ⟨bl, 0, none⟩ = some (.slice A1 n c1)) w9 := s0
  refine hK _ _ (.inr hHeld8) ?_
  clear hK K hHeld
  have hHeld := hHeld8
  clear hHeld8
  try simp only [Act.put, List.setIfInBounds_toArray, List.set_cons_zero, List.set_cons_succ]
  refine but_one (i := 12) (o := ?oi12u5) (by kernel_rfl) ?hi12u5 (fun K hK => ?rest12u5)
  case hi12u5 => (simp only [List.getElem?_toArray, List.getElem?_cons_succ, List.getElem?_cons_zero]; exact rfl)
  go_simp
  have hHeld8 : (fun w' : World => w'.cell? ⟨bl, 0, none⟩ = some (.slice A1 n c1)) w9 := s0
  refine hK _ _ (.inr hHeld8) ?_
  clear hK K hHeld
  have hHeld := hHeld8
  clear hHeld8
  try simp only [Act.put, List.setIfInBounds_toArray, List.set_cons_zero, List.set_cons_succ]
  refine but_one (i := 13) (o := ?oi13u6) (by kernel_rfl) ?hi13u6 (fun K hK => ?rest13u6)
  case hi13u6 => (simp only [List.getElem?_toArray, List.getElem?_cons_succ, List.getElem?_cons_zero]; exact rfl)
  go_simp
  refine hK _ _ (.inl rfl) ?_
  clear hK K hHeld
  try simp only [Act.put, List.setIfInBounds_toArray, List.set_cons_zero, List.set_cons_succ]
  refine but_done (by kernel_rfl) ?_ _
  have hLz := Q1.out
  have hbz := HbD.out.trans (Hb5.out.trans Q2.out)
  clear s0 s1 sl sf c50 rl Q1 Q2 HbD Hb5 HL5 Hone hal2 hXV hlV hsz5 hb50 Hxw Hcx
  generalize w9.setCell ⟨bl, 0, none⟩ (.slice A9 (n + 1) d9) = Z at *
  have hputA : putA l (.i x) a = (l ++ [(slotA (.i x) n 0 a).1], n, (slotA (.i x) n 0 a).2) := by rw [← hnl]; rfl
  have hLlen : (l ++ [(slotA (.i x) n 0 a).1]).length ≤ 100000 := by simp; omega
  have HPL : Hid (PR = (l ++ [(slotA (.i x) n 0 a).1], n, (slotA (.i x) n 0 a).2)) := Lib.hid (HPR.out.symm.trans hputA)
  clear HPR hputA
  generalize l ++ [(slotA (.i x) n 0 a).1] = L at *
  generalize (slotA (.i x) n 0 a).2 = b at *
  clear e0' hb0Y q0 hlY
  obtain ⟨A2, n2, c2, B2, m2, d2, p1, p2, p3, p4⟩ := hLz.has
  have hlz := own0_len p3
  rw [flatC_len] at hlz
  have HlenL : Hid (L.length = n2) := Lib.hid (by omega)
  have hn2 : n2 ≤ 100000 := by omega
  obtain ⟨r0, r1, rl⟩ := open2 p2
  have z0 := (hbz.block g0 hg0b).trans x0
  have z1 := (hbz.block g1 hg1b).trans x1
  obtain ⟨u0, u1, u2, ul⟩ := open3 z0
  obtain ⟨v0, v1, v2, vl⟩ := open3 z1
  have P3 := Lib.hid p3
  have P4 := Lib.hid p4
  have Wfc := Lib.hid hLz.wfc
  have Wfi := Lib.hid hLz.wfi
  have Nc0 := Lib.hid (own0_ne p3 z0 (by intro cur he; simp at he))
  have Nc1 := Lib.hid (own0_ne p3 z1 (by intro cur he; simp at he))
  have Ni0 := Lib.hid (own0_ne p4 z0 (by intro cur he; simp at he))
  have Ni1 := Lib.hid (own0_ne p4 z1 (by intro cur he; simp at he))
  have Hbw := Lib.hid (HbX.out.trans (hbz.mono hwB))
  have hwZ := Hbw.out.size
  have uf0 := frozen_of z0 0
  have vf0 := frozen_of z1 0
  have vf1 := frozen_of z1 1
  have vf2 := frozen_of z1 2
  have hg0w : w.heap.size ≤ g0 := hg0w'
  have hg1w : w.heap.size ≤ g1 := hg1w'
  have hg01 : ¬ g0 = g1 := hg01'
  have hg0l : ¬ g0 = bl := by omega
  have hg1l : ¬ g1 = bl := by omega
  clear hlz p2 p3 p4 x0 x1 z0 z1 hbz hLz
  by_cases hfit : (n2 : Int) ≤ r
  · have hd : decide (r < (n2 : Int)) = false := by simp; omega
    have Hfit : Hid (((L.length : Nat) : Int) ≤ r) := Lib.hid (by rw [HlenL.out]; exact hfit)
    clear hfit
    go_upto_region 8 with fail
    go_quiet (fail)
    go_upto_region 10 with fail
    refine wp_world' (Φ := fun V => V.cell? ⟨bl, 0, none⟩ = some (.slice A2 n2 c2) ∧ V.cell? ⟨g0, 1, none⟩ = some (.slice B m d) ∧ V.cell? ⟨g0, 2, none⟩ = some (.int .i64 r) ∧ V.cell? ⟨bl, 1, none⟩ = some (.slice B2 m2 d2) ∧
      V.cell? ⟨g1, 0, none⟩ = some (.slice none 0 0) ∧ V.cell? ⟨g1, 1, none⟩ = some (.slice none 0 0) ∧ V.cell? ⟨g1, 2, none⟩ = some (.int .i64 0) ∧ V.frozen? ⟨g1, 0, none⟩ = false ∧ V.frozen? ⟨g1, 1, none⟩ = false ∧ V.frozen? ⟨g1, 2, none⟩ = false ∧
      (∀ g, g ≠ g0 → V.heap[g]? = Z.heap[g]?) ∧ Below w.heap.size w V ∧ g1 < V.heap.size) ⟨(by first | (simp [*]; done) | (go_simp; done) | (go_simp; simp [*]; done)), (by first | (simp [*]; done) | (go_simp; done) | (go_simp; simp [*]; done)), (by first | (simp [*]; done) | (go_simp; done) | (go_simp; simp [*]; done)), (by first | (simp [*]; done) | (go_simp; done) | (go_simp; simp [*]; done)), (by first | (simp [*]; done) | (go_simp; done) | (go_simp; simp [*]; done)), (by first | (simp [*]; done) | (go_simp; done) | (go_simp; simp [*]; done)), (by first | (simp [*]; done) | (go_simp; done) | (go_simp; simp [*]; done)), (by first | (simp [*]; done) | (go_simp; done) | (go_simp; simp [*]; done)), (by first | (simp [*]; done) | (go_simp; done) | (go_simp; simp [*]; done)), (by first | (simp [*]; done) | (go_simp; done) | (go_simp; simp [*]; done)), fun g hg => by simp, below_drewN Hbw.out _, by simpa using vl⟩ ?_
    rintro V ⟨s0, s1, s2, s3, t0, t1, t2, f0, f1, f2, hVo, hVb, hV1⟩
    have HVo := Lib.hid hVo
    have HVb := Lib.hid hVb
    clear hVo hVb u0 u1 u2 ul v0 v1 v2 vl uf0 vf0 vf1 vf2 r0 r1 rl
    refine wp_region_held_drew (S := fun w' => w'.cell? ⟨bl, 0, none⟩ = some (.slice A2 n2 c2) ∧ w'.cell? ⟨g0, 1, none⟩ = some (.slice B m d) ∧ w'.cell? ⟨g0, 2, none⟩ = some (.int .i64 r) ∧ w'.cell? ⟨bl, 1, none⟩ = some (.slice B2 m2 d2)) (by kernel_rfl) ?gs ?gr
    case gs => simp [*]
    case gr =>
      intro hHeld
      have hbV : Below w.heap.size w V.drew := HVb.out.drew
      have hoV : ∀ g, g ≠ g0 → V.drew.heap[g]? = Z.heap[g]? := HVo.out
      have t0' : V.drew.cell? ⟨g1, 0, none⟩ = some (.slice none 0 0) := t0
      have t1' : V.drew.cell? ⟨g1, 1, none⟩ = some (.slice none 0 0) := t1
      have t2' : V.drew.cell? ⟨g1, 2, none⟩ = some (.int .i64 0) := t2
      have f0' : V.drew.frozen? ⟨g1, 0, none⟩ = false := f0
      have f1' : V.drew.frozen? ⟨g1, 1, none⟩ = false := f1
      have f2' : V.drew.frozen? ⟨g1, 2, none⟩ = false := f2
      have hV1' : g1 < V.drew.heap.size := hV1
      have HbV := Lib.hid hbV
      have HoV := Lib.hid hoV
      clear hbV hoV t0 t1 t2 f0 f1 f2 hV1 s0 s1 s2 s3 HVo HVb
      generalize V.drew = U at *
      refine takeH 0 hHeld ?_
      try simp only [Act.put, List.setIfInBounds_toArray, List.set_cons_zero, List.set_cons_succ]
      refine takeH 1 hHeld ?_
      try simp only [Act.put, List.setIfInBounds_toArray, List.set_cons_zero, List.set_cons_succ]
      refine takeH 2 hHeld ?_
      try simp only [Act.put, List.setIfInBounds_toArray, List.set_cons_zero, List.set_cons_succ]
      refine takeH 3 hHeld ?_
      try simp only [Act.put, List.setIfInBounds_toArray, List.set_cons_zero, List.set_cons_succ]
      refine takeH 4 hHeld ?_
      try simp only [Act.put, List.setIfInBounds_toArray, List.set_cons_zero, List.set_cons_succ]
      refine takeH 5 hHeld ?_
      try simp only [Act.put, List.setIfInBounds_toArray, List.set_cons_zero, List.set_cons_succ]
      refine takeH 6 hHeld ?_
      try simp only [Act.put, List.setIfInBounds_toArray, List.set_cons_zero, List.set_cons_succ]
      refine takeH 7 hHeld ?_
      try simp only [Act.put, List.setIfInBounds_toArray, List.set_cons_zero, List.set_cons_succ]
      refine takeH 8 hHeld ?_
      try simp only [Act.put, List.setIfInBounds_toArray, List.set_cons_zero, List.set_cons_succ]
      refine takeH 9 hHeld ?_
      try simp only [Act.put, List.setIfInBounds_toArray, List.set_cons_zero, List.set_cons_succ]
      refine takeH 10 hHeld ?_
      try simp only [Act.put, List.setIfInBounds_toArray, List.set_cons_zero, List.set_cons_succ]
      refine takeH 11 hHeld ?_
      try simp only [Act.put, List.setIfInBounds_toArray, List.set_cons_zero, List.set_cons_succ]
      refine takeH 12 hHeld ?_
      try simp only [Act.put, List.setIfInBounds_toArray, List.set_cons_zero, List.set_cons_succ]
      refine takeH 13 hHeld ?_
      try simp only [Act.put, List.setIfInBounds_toArray, List.set_cons_zero, List.set_cons_succ]
      refine held_one (i := 14) (o := ?oi14u21) (by kernel_rfl) ?hi14u21 (fun K hK => ?rest14u21)
      case hi14u21 => (simp only [List.getElem?_toArray, List.getElem?_cons_succ, List.getElem?_cons_zero]; exact rfl)
      go_simp
      have hHeld8 : (fun w' : World => w'.cell? ⟨bl, 0, none⟩ = some (.slice A2 n2 c2) ∧ w'.cell? ⟨g0, 1, none⟩ = some (.slice B m d) ∧ w'.cell? ⟨g0, 2, none⟩ = some (.int .i64 r) ∧ w'.cell? ⟨bl, 1, none⟩ = some (.slice B2 m2 d2)) (((U.setCell ⟨g1, 0, none⟩ (.slice A2 n2 c2)).setCell ⟨g1, 1, none⟩ (.slice B m d)).setCell ⟨g1, 2, none⟩ (.int .i64 r)) := ⟨(by first | (simp [*]; done) | (go_simp; done) | (go_simp; simp [*]; done)), (by first | (simp [*]; done) | (go_simp; done) | (go_simp; simp [*]; done)), (by first | (simp [*]; done) | (go_simp; done) | (go_simp; simp [*]; done)), (by first | (simp [*]; done) | (go_simp; done) | (go_simp; simp [*]; done))⟩
      refine hK _ _ hHeld8 ?_
      clear hK K hHeld
      have hHeld := hHeld8
      clear hHeld8
      try simp only [Act.put, List.setIfInBounds_toArray, List.set_cons_zero, List.set_cons_succ]
      refine takeH 15 hHeld ?_
      try simp only [Act.put, List.setIfInBounds_toArray, List.set_cons_zero, List.set_cons_succ]
      refine takeH 16 hHeld ?_
      try simp only [Act.put, List.setIfInBounds_toArray, List.set_cons_zero, List.set_cons_succ]
      refine takeH 17 hHeld ?_
      try simp only [Act.put, List.setIfInBounds_toArray, List.set_cons_zero, List.set_cons_succ]
      refine wpAnyH_done (by kernel_rfl) ?_ _
      have hbF : Below w.heap.size w (((U.setCell ⟨g1, 0, none⟩ (.slice A2 n2 c2)).setCell ⟨g1, 1, none⟩ (.slice B m d)).setCell ⟨g1, 2, none⟩ (.int .i64 r)) := ((HbV.out.setCell hg1w _).setCell hg1w _).setCell hg1w _
      have hoF : ∀ g, g ≠ g0 → g ≠ g1 → (((U.setCell ⟨g1, 0, none⟩ (.slice A2 n2 c2)).setCell ⟨g1, 1, none⟩ (.slice B m d)).setCell ⟨g1, 2, none⟩ (.int .i64 r)).heap[g]? = Z.heap[g]? := fun g h1 h2 => (set_other h2 _).trans ((set_other h2 _).trans ((set_other h2 _).trans (HoV.out g h1)))
      have hcF := own0_at P3.out (fun hc a ha => hoF _ (Nc0.out hc a ha) (Nc1.out hc a ha))
      have hiF := own0_at P4.out (fun hc a ha => hoF _ (Ni0.out hc a ha) (Ni1.out hc a ha))
      have HIC := Lib.hid (Ly.isC hcF Wfc.out)
      have HII := Lib.hid (Ly.isI hiF Wfi.out)
      have HFr := Lib.hid (fun (h0 : m2 ≠ 0) a ha => Nat.le_trans hwB (own0_low hiF h0 a ha))
      have HbF := Lib.hid hbF
      have w0 : (((U.setCell ⟨g1, 0, none⟩ (.slice A2 n2 c2)).setCell ⟨g1, 1, none⟩ (.slice B m d)).setCell ⟨g1, 2, none⟩ (.int .i64 r)).cell? ⟨g1, 0, none⟩ = some (.slice A2 n2 c2) := (by first | (simp [*]; done) | (go_simp; done) | (go_simp; simp [*]; done))
      have w1 : (((U.setCell ⟨g1, 0, none⟩ (.slice A2 n2 c2)).setCell ⟨g1, 1, none⟩ (.slice B m d)).setCell ⟨g1, 2, none⟩ (.int .i64 r)).cell? ⟨g1, 1, none⟩ = some (.slice B m d) := (by first | (simp [*]; done) | (go_simp; done) | (go_simp; simp [*]; done))
      have w2 : (((U.setCell ⟨g1, 0, none⟩ (.slice A2 n2 c2)).setCell ⟨g1, 1, none⟩ (.slice B m d)).setCell ⟨g1, 2, none⟩ (.int .i64 r)).cell? ⟨g1, 2, none⟩ = some (.int .i64 r) := (by first | (simp [*]; done) | (go_simp; done) | (go_simp; simp [*]; done))
      clear hbF hoF hcF hiF hHeld
      generalize (((U.setCell ⟨g1, 0, none⟩ (.slice A2 n2 c2)).setCell ⟨g1, 1, none⟩ (.slice B m d)).setCell ⟨g1, 2, none⟩ (.int .i64 r)) = F at *
      go_wp2
      refine bodyPost_ret (v := .tuple #[.agg #[.slice A2 n2 c2, .slice B m d, .int .i64 r], .int .i64 (n : Int), .slice B2 m2 d2, .int .i64 0]) (by simp [results, Try.results20, go_sem, *]) rfl ?_
      unfold RetPut
      rw [HPL.out]
      rw [if_pos (show ((L.length : Nat) : Int) ≤ r from Hfit.out)]
      exact ⟨A2, n2, c2, B2, m2, d2, rfl, HIC.out, HII.out, HbF.out, HFr.out⟩
  · have hd : decide (r < (n2 : Int)) = true := by simp; omega
    have Hfit : Hid (¬ ((L.length : Nat) : Int) ≤ r) := Lib.hid (by rw [HlenL.out]; exact hfit)
    clear hfit
    go_upto_region 8 with fail
    go_quiet (fail)
    go_wp2
    refine bodyPost_ret (v := .tuple #[.agg #[.slice A n c, .slice B m d, .int .i64 r], .int .i64 0, .slice none 0 0, .int .i64 80]) (by simp [results, Try.results20, go_sem, *]) rfl ?_
    unfold RetPut
    rw [HPL.out]
    rw [if_neg (by have h9 := Hfit.out; show ¬ ((L.length : Nat) : Int) ≤ r; omega)]
    exact ⟨rfl, ((((below_drewN Hbw.out _).setCell hg1w _).setCell hg1w _).setCell hg1w _)⟩
end Go.Proofs.Ytlndjooddkjnoaa

/- The walk of the document's Put: a variable that stands nowhere. -/
namespace Go.Proofs.Ytlndjooddkjnoaa
open Go.RowKit

set_option maxRecDepth 100000 in
set_option maxHeartbeats 8000000 in
theorem qPut_v (v : Nat) (A B D At : Option Addr) (n c m d p e k kc : Nat) (r : Int) (l : List C) (a : List Int) (w : World) (h : IsC w A n c l) (ht : IsC w At k kc (Tm.v v).flat) (hD : IsI w D p e a)
    (hT : (Tm.v v).ok = true) (hn : n ≤ 50000) (hp : p ≤ 50000) (hneg : atA a v < 0) :
    Calls Try.prog 20 #[.agg #[.slice A n c, .slice B m d, .int .i64 r], .slice At k kc, .slice D p e] w (RetPut w A B n c m d r (putA l (.v v) a)) := by
  have hnl := h.len
  have hpl := hD.len
  generalize hPR : putA l (.v v) a = PR
  have HPR := Lib.hid hPR
  clear hPR
  obtain ⟨b0, off0, rfl, hb00, e0, e1, e2, hn0⟩ := ht.tm0
  have hn0' : (0 : Int) < (k : Int) := by omega
  simp only [Tm.c0] at e0 e1 e2
  have HC := Lib.hid h
  have HD := Lib.hid hD
  have HT := Lib.hid ht
  clear h hD ht
  go_enter Try.func20, Try.ntmps20
  go_upto_region 1 with fail
  refine wp_world' (Φ := fun X => Below w.heap.size w X ∧ X.heap.size = w.heap.size + 2 ∧ X.heap[w.heap.size]? = some (.cells #[.slice A n c, .slice B m d, .int .i64 r] 25 (0, 0)) ∧ X.heap[w.heap.size + 1]? = some (.cells #[.slice none 0 0, .slice none 0 0, .int .i64 0] 25 (0, 0)))
    ⟨((Below.refl _ _).alloc (Nat.le_refl _) _).alloc (by first | omega | (simp; done) | (simp; omega)) _, (by first | omega | (simp; done) | (simp; omega)), (alloc_past (by first | omega | (simp; done) | (simp; omega))).trans (alloc_at rfl), alloc_at (by first | omega | (simp; done) | (simp; omega))⟩ ?_
  rintro X ⟨hbX, hX1, x0, x1⟩
  obtain ⟨g0, hg0⟩ : ∃ g0, g0 = w.heap.size := ⟨_, rfl⟩
  obtain ⟨g1, hg1⟩ : ∃ g1, g1 = w.heap.size + 1 := ⟨_, rfl⟩
  rw [← hg1] at x1 ⊢
  rw [← hg0] at x0 ⊢
  have HbX := Lib.hid hbX
  have hg0b : g0 < X.heap.size := by omega
  have hg1b : g1 < X.heap.size := by omega
  have hg0w' : w.heap.size ≤ g0 := by omega
  have hg1w' : w.heap.size ≤ g1 := by omega
  have hg01' : ¬ g0 = g1 := by omega
  have hwB : w.heap.size ≤ X.heap.size := by omega
  obtain ⟨y0, y1, y2, yl⟩ := open3 x0
  clear hX1 hg0 hg1 hbX
  have hRC := Lib.hid (fun (o : Obj) => HC.out.sl.below (HbX.out.alloc hwB o))
  go_upto_region 2 with (first
    | (at_builtin; have hfirst := hRC; go_must (refine wpList_append_sl rfl (.tmp 12) (.tmp 14) 22 rfl X.heap.size 68 Try.underlying22 infoS rfl (by omega) rfl (World.ownsRow_lit X #[] 0 (Nat.le_refl _) (by simp [maxLen]) rfl) rfl (hRC.out _) (oneC l) (by omega) (by omega) (by simp) ?_); go_must (intro A1 c1 w1 hown1 hb1' _ _; have ho1 : w1.ownsRow X.heap.size 68 3 (.slice A1 n c1) n (flatC l) := (by simpa using hown1)); go_must (have hb1 : Below X.heap.size X w1 := ((Below.refl _ _).alloc (Nat.le_refl _) _).trans hb1'; have hx1 := (hb1.block g0 hg0b).trans x0; clear hfirst hRC hown1 hb1'))
    | (at_builtin; go_must (refine wpList_append_sl rfl (.tmp 16) (.tmp 17) 23 rfl w1.heap.size 3 Try.underlying23 infoI rfl (by omega) rfl (World.ownsRow_lit w1 #[] 0 (Nat.le_refl _) (by simp [maxLen]) rfl) rfl (HD.out.sl.below (HbX.out.trans ((hb1.alloc hb1.size _).mono hwB))) (oneI _ a) (by omega) (by omega) (by simp) ?_); intro D1 d1 w2 hown2 hb2' _ _; have ho2 : w2.ownsRow w1.heap.size 3 1 (.slice D1 p d1) p (a.map (Value.int .i64)) := (by simpa using hown2); have hb2 : Below w1.heap.size w1 w2 := ((Below.refl _ _).alloc (Nat.le_refl _) _).trans hb2'; clear hown2 hb2'))
  obtain ⟨bl, hbl⟩ : ∃ bl, bl = w2.heap.size := ⟨_, rfl⟩
  have hs1 := hb1.size
  have hs2 := hb2.size
  rw [← hbl]
  refine wp_world' (Φ := fun Y => Below X.heap.size X Y ∧ Ly Y X.heap.size bl 83 l a ∧ Y.cell? ⟨bl, 0, none⟩ = some (.slice A1 n c1)) ⟨?_, ⟨⟨A1, n, c1, D1, p, d1, by omega, alloc_at hbl.symm, .inr ?_, .inr ?_⟩, HC.out.wf, HD.out.wf⟩, cells_of (alloc_at hbl.symm) 0⟩ ?_
  · exact (hb1.trans (hb2.mono hs1)).alloc (by omega) _
  · exact ((own_below ho1 hb2).alloc _)
  · exact (own_lower ho2 hs1).alloc _
  rintro Y ⟨hbY, hLY, q0⟩
  have hbl2 : X.heap.size ≤ bl := by omega
  have hYb := (hbY.block g0 hg0b).trans x0
  have hbYw := HbX.out.trans (hbY.mono hwB)
  have e0' := (hbYw.cell (p := ⟨b0, off0, none⟩) hb00).trans e0
  have hb0Y : b0 < Y.heap.size := Nat.lt_of_lt_of_le hb00 hbYw.size
  have hYX : X.heap.size ≤ Y.heap.size := hbY.size
  have hlY := hLY.lt.2
  clear ho1 ho2 hb1 hb2 hx1 hs1 hs2 hbl e0
  have hv9 : v ≤ 999 := by simp [Tm.ok] at hT; omega
  have e2' := (hbYw.cell (p := ⟨b0, off0 + 2, none⟩) hb00).trans e2
  have hst := mvariable_any X.heap.size bl l a v Y hLY hv9 hYX (by omega)
  have hd0 : decide (0 ≤ atA a v) = false := by simp; omega
  have hd1 : ¬ (atA a v ≥ 0) := by omega
  have Hst := Lib.hid hst
  have HbY := Lib.hid hbY
  have HbYw := Lib.hid hbYw
  have Hneg := Lib.hid hneg
  have hlv := extA_len_le a v
  have hlv2 : (extA a v).length ≤ 100000 := by omega
  have haw : i64 (atA a v) := by
    unfold atA
    cases hav : a[v]? with
    | none => exact ⟨by decide, by decide⟩
    | some y => exact HD.out.wf y (List.mem_of_getElem? hav)
  have Haw := Lib.hid haw
  clear hst hbY hLY hYb hbYw hneg hlv haw
  go_upto_region 7 with (first
    | (go_at_call 57; go_must (refine Hst.out.mono ?_); rintro e w3 ⟨rfl, hL3, hb3, hk3, hs3⟩))
  have cD := hs3.trans q0
  have hLD := hL3
  have hbD := HbY.out.trans hb3
  have haD := hlv2
  clear Hst hL3 hb3 hk3 hs3
  rename World => D
  have hbDw := HbX.out.trans (hbD.mono hwB)
  have hXD : X.heap.size ≤ D.heap.size := hbD.size
  have hb0D : b0 < D.heap.size := Nat.lt_of_lt_of_le hb00 hbDw.size
  have hDd : Below D.heap.size D D.drew := (Below.refl _ _).drew
  have hLDd := hLD.below hDd
  have hone := mone_any w X.heap.size bl l (extA a v) (Tm.v v) n (some ⟨b0, off0, none⟩) k kc D.drew HT.out hbDw.drew hwB hLDd hT (by omega) haD hXD
  have Hone := Lib.hid hone
  have HbD := Lib.hid (hbD.trans (hDd.mono hXD))
  have Hxw := Lib.hid (slotA_wf hT (P := n) (q := 0) (by omega) (by omega) hLD.wfi)
  have hlD := hLD.lt.2
  clear hone hLDd hLD hbD hbDw hDd
  refine region_but 13 (fun w' => w'.cell? ⟨bl, 0, none⟩ = some (.slice A1 n c1)) (by kernel_rfl) ?_
  have hHeld : (fun w' : World => w'.cell? ⟨bl, 0, none⟩ = some (.slice A1 n c1)) D.drew := cD
  have hXV : X.heap.size ≤ D.drew.heap.size := hXD
  have hlV : bl < D.drew.heap.size := hlD
  clear cD hXD hb0D hlD
  generalize D.drew = V at *

  refine takeB 0 hHeld ?_
  try simp only [Act.put, List.setIfInBounds_toArray, List.set_cons_zero, List.set_cons_succ]
  refine takeB 1 hHeld ?_
  try simp only [Act.put, List.setIfInBounds_toArray, List.set_cons_zero, List.set_cons_succ]
  refine takeB 2 hHeld ?_
  try simp only [Act.put, List.setIfInBounds_toArray, List.set_cons_zero, List.set_cons_succ]
  refine takeB 3 hHeld ?_
  try simp only [Act.put, List.setIfInBounds_toArray, List.set_cons_zero, List.set_cons_succ]
  refine takeB 4 hHeld ?_
  try simp only [Act.put, List.setIfInBounds_toArray, List.set_cons_zero, List.set_cons_succ]
  refine takeB 5 hHeld ?_
  try simp only [Act.put, List.setIfInBounds_toArray, List.set_cons_zero, List.set_cons_succ]
  refine takeB 6 hHeld ?_
  try simp only [Act.put, List.setIfInBounds_toArray, List.set_cons_zero, List.set_cons_succ]
  refine takeB 7 hHeld ?_
  try simp only [Act.put, List.setIfInBounds_toArray, List.set_cons_zero, List.set_cons_succ]
  refine but_one (i := 8) (o := ?oi8u1) (by kernel_rfl) ?hi8u1 (fun K hK => ?rest8u1)
  case hi8u1 => (simp only [List.getElem?_toArray, List.getElem?_cons_succ, List.getElem?_cons_zero]; exact rfl)
  go_simp
  go_at_call 58
  refine Hone.out.mono ?_
  rintro e w5 ⟨rfl, hL5, hb5, hk5, hs5⟩
  have c50 := hs5.trans hHeld
  have HL5 := Lib.hid hL5
  have Hb5 := Lib.hid hb5
  have hsz5 := hb5.size
  clear hL5 hb5 hk5 hs5
  try go_simp
  have hHeld8 : (fun w' : World => w'.cell? ⟨bl, 0, none⟩ = some (.slice A1 n c1)) w5 := c50
  refine hK _ _ (.inr hHeld8) ?_
  clear hK K hHeld
  have hHeld := hHeld8
  clear hHeld8
  try simp only [Act.put, List.setIfInBounds_toArray, List.set_cons_zero, List.set_cons_succ]
  have hb50 : X.heap.size ≤ w5.heap.size := Nat.le_trans hXV hsz5
  obtain ⟨A2, n2, c2, B2, m2, d2, p1, p2, p3, p4⟩ := HL5.out.has
  obtain ⟨r0, r1, rl⟩ := open2 p2
  have r0' := (c50.symm.trans r0)
  injection r0' with r0'
  injection r0' with i1 i2 i3
  subst i1; subst i2; subst i3
  obtain ⟨cx, hcx⟩ : ∃ cx, cx = (slotA (Tm.v v) n 0 (extA a v)).1 := ⟨_, rfl⟩
  have Hcx := Lib.hid hcx
  rw [← hcx] at Hxw ⊢
  clear hcx
  obtain ⟨kx, sx, nx_⟩ := cx
  refine but_one (i := 9) (o := ?oi9u2) (by kernel_rfl) ?hi9u2 (fun K hK => ?rest9u2)
  case hi9u2 => (simp only [List.getElem?_toArray, List.getElem?_cons_succ, List.getElem?_cons_zero]; exact rfl)
  have hal2 : Below w5.heap.size w5 (w5.alloc (.cells #[.int .i64 kx, .string sx, .int .i64 nx_] 68)) := (Below.refl _ _).alloc (Nat.le_refl _) _
  try simp only [C.val]
  go_simp
  have hHeld8 : (fun w' : World => w'.cell? ⟨bl, 0, none⟩ = some (.slice A1 n c1)) (w5.alloc (.cells #[.int .i64 kx, .string sx, .int .i64 nx_] 68)) := (hal2.cell (p := ⟨bl, 0, none⟩) rl).trans c50
  refine hK _ _ (.inr hHeld8) ?_
  clear hK K hHeld
  have hHeld := hHeld8
  clear hHeld8
  try simp only [Act.put, List.setIfInBounds_toArray, List.set_cons_zero, List.set_cons_succ]
  refine but_one (i := 10) (o := ?oi10u3) (by kernel_rfl) ?hi10u3 (fun K hK => ?rest10u3)
  case hi10u3 => (simp only [List.getElem?_toArray, List.getElem?_cons_succ, List.getElem?_cons_zero]; exact rfl)
  refine step_append_z (by rfl) (.tmp 58) (.tmp 63) 22 (by rfl) X.heap.size 68 Try.underlying22 infoS (by rfl) (by omega) (by rfl) (xs := flatC l) ?_ (by rfl) (news := [.int .i64 kx, .string sx, .int .i64 nx_]) ?_ (one3 _ _ _) (by omega) (by omega) (by omega) (by simp; omega) ?_
  focus (exact p3.below hal2)
  focus (exact Sl.lit w5 _ [_, _, _] 68 3 1 rfl rfl (by simp [maxLen]))
  intro A9 d9 w9 hown9 hb9 hap9
  obtain ⟨q1, q2, q3⟩ := Ly.grown (.cells #[.int .i64 kx, .string sx, .int .i64 nx_] 68) tLayer_ne.2.2.1 tLayer_ne.2.2.2.1 HL5.out p2 p3 p4 (x := ⟨kx, sx, nx_⟩) Hxw.out hown9 hap9 hb9 hb50
  rw [Hcx.out] at q1
  have Q1 := Lib.hid q1
  have Q2 := Lib.hid q2
  have x9 := (hap9.old bl (by simp; omega) (own0_ne (p3.below hal2) ((alloc_past rl).trans p2) (by intro cur he; injection he with e1 e2 e3; exact tLayer_ne.2.2.1 e2))).trans ((alloc_past rl).trans p2)
  obtain ⟨s0, s1, sl⟩ := open2 x9
  have sf := frozen_of x9 0
  clear q1 q2 q3 x9 hown9 hap9 hb9 p2 p3 p4 r0 r1
  have hHeld8 : (fun w' : World => w'.cell? ⟨bl, 0, none⟩ = some (.slice A1 n c1)) w9 := s0
  refine hK _ _ (.inr hHeld8) ?_
  clear hK K hHeld
  have hHeld := hHeld8
  clear hHeld8
  try simp only [Act.put, List.setIfInBounds_toArray, List.set_cons_zero, List.set_cons_succ]
  refine but_one (i := 11) (o := ?oi11u4) (by kernel_rfl) ?hi11u4 (fun K hK => ?rest11u4)
  case hi11u4 => (simp only [List.getElem?_toArray, List.getElem?_cons_succ, List.getElem?_cons_zero]; exact rfl)
  go_simp
  have hHeld8 : (fun w' : World => w'.cell? ⟨bl, 0, none⟩ = some (.slice A1 n c1)) w9 := s0
  refine hK _ _ (.inr hHeld8) ?_
  clear hK K hHeld
  have hHeld := hHeld8
  clear hHeld8
  try simp only [Act.put, List.setIfInBounds_toArray, List.set_cons_zero, List.set_cons_succ]
  refine but_one (i := 12) (o := ?oi12u5) (by kernel_rfl) ?hi12u5 (fun K hK => ?rest12u5)
  case hi12u5 => (simp only [List.getElem?_toArray, List.getElem?_cons_succ, List.getElem?_cons_zero]; exact rfl)
  go_simp
  have hHeld8 : (fun w' : World => w'.cell? ⟨bl, 0, none⟩ = some (.slice A1 n c1)) w9 := s0
  refine hK _ _ (.inr hHeld8) ?_
  clear hK K hHeld
  have hHeld := hHeld8
  clear hHeld8
  try simp only [Act.put, List.setIfInBounds_toArray, List.set_cons_zero, List.set_cons_succ]
  refine but_one (i := 13) (o := ?oi13u6) (by kernel_rfl) ?hi13u6 (fun K hK => ?rest13u6)
  case hi13u6 => (simp only [List.getElem?_toArray, List.getElem?_cons_succ, List.getElem?_cons_zero]; exact rfl)
  go_simp
  refine hK _ _ (.inl rfl) ?_
  clear hK K hHeld
  try simp only [Act.put, List.setIfInBounds_toArray, List.set_cons_zero, List.set_cons_succ]
  refine but_done (by kernel_rfl) ?_ _
  have hLz := Q1.out
  have hbz := HbD.out.trans (Hb5.out.trans Q2.out)
  clear s0 s1 sl sf c50 rl Q1 Q2 HbD Hb5 HL5 Hone hal2 hXV hlV hsz5 hb50 Hxw Hcx
  generalize w9.setCell ⟨bl, 0, none⟩ (.slice A9 (n + 1) d9) = Z at *
  have hputA : putA l (.v v) a = (l ++ [(slotA (.v v) n 0 (extA a v)).1], n, (slotA (.v v) n 0 (extA a v)).2) := by
    rw [← hnl]
    simp only [putA, slotA_v, Int.toNat_natCast, if_pos Hneg.out, atA_ext, extA_has (extA_len a v)]
  have hLlen : (l ++ [(slotA (.v v) n 0 (extA a v)).1]).length ≤ 100000 := by simp; omega
  have HPL : Hid (PR = (l ++ [(slotA (.v v) n 0 (extA a v)).1], n, (slotA (.v v) n 0 (extA a v)).2)) := Lib.hid (HPR.out.symm.trans hputA)
  clear HPR hputA
  generalize l ++ [(slotA (.v v) n 0 (extA a v)).1] = L at *
  generalize (slotA (.v v) n 0 (extA a v)).2 = b at *
  clear e0' hb0Y q0 hlY e2'
  obtain ⟨A2, n2, c2, B2, m2, d2, p1, p2, p3, p4⟩ := hLz.has
  have hlz := own0_len p3
  rw [flatC_len] at hlz
  have HlenL : Hid (L.length = n2) := Lib.hid (by omega)
  have hn2 : n2 ≤ 100000 := by omega
  obtain ⟨r0, r1, rl⟩ := open2 p2
  have z0 := (hbz.block g0 hg0b).trans x0
  have z1 := (hbz.block g1 hg1b).trans x1
  obtain ⟨u0, u1, u2, ul⟩ := open3 z0
  obtain ⟨v0, v1, v2, vl⟩ := open3 z1
  have P3 := Lib.hid p3
  have P4 := Lib.hid p4
  have Wfc := Lib.hid hLz.wfc
  have Wfi := Lib.hid hLz.wfi
  have Nc0 := Lib.hid (own0_ne p3 z0 (by intro cur he; simp at he))
  have Nc1 := Lib.hid (own0_ne p3 z1 (by intro cur he; simp at he))
  have Ni0 := Lib.hid (own0_ne p4 z0 (by intro cur he; simp at he))
  have Ni1 := Lib.hid (own0_ne p4 z1 (by intro cur he; simp at he))
  have Hbw := Lib.hid (HbX.out.trans (hbz.mono hwB))
  have hwZ := Hbw.out.size
  have uf0 := frozen_of z0 0
  have vf0 := frozen_of z1 0
  have vf1 := frozen_of z1 1
  have vf2 := frozen_of z1 2
  have hg0w : w.heap.size ≤ g0 := hg0w'
  have hg1w : w.heap.size ≤ g1 := hg1w'
  have hg01 : ¬ g0 = g1 := hg01'
  have hg0l : ¬ g0 = bl := by omega
  have hg1l : ¬ g1 = bl := by omega
  clear hlz p2 p3 p4 x0 x1 z0 z1 hbz hLz
  by_cases hfit : (n2 : Int) ≤ r
  · have hd : decide (r < (n2 : Int)) = false := by simp; omega
    have Hfit : Hid (((L.length : Nat) : Int) ≤ r) := Lib.hid (by rw [HlenL.out]; exact hfit)
    clear hfit
    go_upto_region 8 with fail
    go_quiet (fail)
    go_upto_region 10 with fail
    refine wp_world' (Φ := fun V => V.cell? ⟨bl, 0, none⟩ = some (.slice A2 n2 c2) ∧ V.cell? ⟨g0, 1, none⟩ = some (.slice B m d) ∧ V.cell? ⟨g0, 2, none⟩ = some (.int .i64 r) ∧ V.cell? ⟨bl, 1, none⟩ = some (.slice B2 m2 d2) ∧
      V.cell? ⟨g1, 0, none⟩ = some (.slice none 0 0) ∧ V.cell? ⟨g1, 1, none⟩ = some (.slice none 0 0) ∧ V.cell? ⟨g1, 2, none⟩ = some (.int .i64 0) ∧ V.frozen? ⟨g1, 0, none⟩ = false ∧ V.frozen? ⟨g1, 1, none⟩ = false ∧ V.frozen? ⟨g1, 2, none⟩ = false ∧
      (∀ g, g ≠ g0 → V.heap[g]? = Z.heap[g]?) ∧ Below w.heap.size w V ∧ g1 < V.heap.size) ⟨(by first | (simp [*]; done) | (go_simp; done) | (go_simp; simp [*]; done)), (by first | (simp [*]; done) | (go_simp; done) | (go_simp; simp [*]; done)), (by first | (simp [*]; done) | (go_simp; done) | (go_simp; simp [*]; done)), (by first | (simp [*]; done) | (go_simp; done) | (go_simp; simp [*]; done)), (by first | (simp [*]; done) | (go_simp; done) | (go_simp; simp [*]; done)), (by first | (simp [*]; done) | (go_simp; done) | (go_simp; simp [*]; done)), (by first | (simp [*]; done) | (go_simp; done) | (go_simp; simp [*]; done)), (by first | (simp [*]; done) | (go_simp; done) | (go_simp; simp [*]; done)), (by first | (simp [*]; done) | (go_simp; done) | (go_simp; simp [*]; done)), (by first | (simp [*]; done) | (go_simp; done) | (go_simp; simp [*]; done)), fun g hg => by simp, below_drewN Hbw.out _, by simpa using vl⟩ ?_
    rintro V ⟨s0, s1, s2, s3, t0, t1, t2, f0, f1, f2, hVo, hVb, hV1⟩
    have HVo := Lib.hid hVo
    have HVb := Lib.hid hVb
    clear hVo hVb u0 u1 u2 ul v0 v1 v2 vl uf0 vf0 vf1 vf2 r0 r1 rl
    refine wp_region_held_drew (S := fun w' => w'.cell? ⟨bl, 0, none⟩ = some (.slice A2 n2 c2) ∧ w'.cell? ⟨g0, 1, none⟩ = some (.slice B m d) ∧ w'.cell? ⟨g0, 2, none⟩ = some (.int .i64 r) ∧ w'.cell? ⟨bl, 1, none⟩ = some (.slice B2 m2 d2)) (by kernel_rfl) ?gs ?gr
    case gs => simp [*]
    case gr =>
      intro hHeld
      have hbV : Below w.heap.size w V.drew := HVb.out.drew
      have hoV : ∀ g, g ≠ g0 → V.drew.heap[g]? = Z.heap[g]? := HVo.out
      have t0' : V.drew.cell? ⟨g1, 0, none⟩ = some (.slice none 0 0) := t0
      have t1' : V.drew.cell? ⟨g1, 1, none⟩ = some (.slice none 0 0) := t1
      have t2' : V.drew.cell? ⟨g1, 2, none⟩ = some (.int .i64 0) := t2
      have f0' : V.drew.frozen? ⟨g1, 0, none⟩ = false := f0
      have f1' : V.drew.frozen? ⟨g1, 1, none⟩ = false := f1
      have f2' : V.drew.frozen? ⟨g1, 2, none⟩ = false := f2
      have hV1' : g1 < V.drew.heap.size := hV1
      have HbV := Lib.hid hbV
      have HoV := Lib.hid hoV
      clear hbV hoV t0 t1 t2 f0 f1 f2 hV1 s0 s1 s2 s3 HVo HVb
      generalize V.drew = U at *
      refine takeH 0 hHeld ?_
      try simp only [Act.put, List.setIfInBounds_toArray, List.set_cons_zero, List.set_cons_succ]
      refine takeH 1 hHeld ?_
      try simp only [Act.put, List.setIfInBounds_toArray, List.set_cons_zero, List.set_cons_succ]
      refine takeH 2 hHeld ?_
      try simp only [Act.put, List.setIfInBounds_toArray, List.set_cons_zero, List.set_cons_succ]
      refine takeH 3 hHeld ?_
      try simp only [Act.put, List.setIfInBounds_toArray, List.set_cons_zero, List.set_cons_succ]
      refine takeH 4 hHeld ?_
      try simp only [Act.put, List.setIfInBounds_toArray, List.set_cons_zero, List.set_cons_succ]
      refine takeH 5 hHeld ?_
      try simp only [Act.put, List.setIfInBounds_toArray, List.set_cons_zero, List.set_cons_succ]
      refine takeH 6 hHeld ?_
      try simp only [Act.put, List.setIfInBounds_toArray, List.set_cons_zero, List.set_cons_succ]
      refine takeH 7 hHeld ?_
      try simp only [Act.put, List.setIfInBounds_toArray, List.set_cons_zero, List.set_cons_succ]
      refine takeH 8 hHeld ?_
      try simp only [Act.put, List.setIfInBounds_toArray, List.set_cons_zero, List.set_cons_succ]
      refine takeH 9 hHeld ?_
      try simp only [Act.put, List.setIfInBounds_toArray, List.set_cons_zero, List.set_cons_succ]
      refine takeH 10 hHeld ?_
      try simp only [Act.put, List.setIfInBounds_toArray, List.set_cons_zero, List.set_cons_succ]
      refine takeH 11 hHeld ?_
      try simp only [Act.put, List.setIfInBounds_toArray, List.set_cons_zero, List.set_cons_succ]
      refine takeH 12 hHeld ?_
      try simp only [Act.put, List.setIfInBounds_toArray, List.set_cons_zero, List.set_cons_succ]
      refine takeH 13 hHeld ?_
      try simp only [Act.put, List.setIfInBounds_toArray, List.set_cons_zero, List.set_cons_succ]
      refine held_one (i := 14) (o := ?oi14u21) (by kernel_rfl) ?hi14u21 (fun K hK => ?rest14u21)
      case hi14u21 => (simp only [List.getElem?_toArray, List.getElem?_cons_succ, List.getElem?_cons_zero]; exact rfl)
      go_simp
      have hHeld8 : (fun w' : World => w'.cell? ⟨bl, 0, none⟩ = some (.slice A2 n2 c2) ∧ w'.cell? ⟨g0, 1, none⟩ = some (.slice B m d) ∧ w'.cell? ⟨g0, 2, none⟩ = some (.int .i64 r) ∧ w'.cell? ⟨bl, 1, none⟩ = some (.slice B2 m2 d2)) (((U.setCell ⟨g1, 0, none⟩ (.slice A2 n2 c2)).setCell ⟨g1, 1, none⟩ (.slice B m d)).setCell ⟨g1, 2, none⟩ (.int .i64 r)) := ⟨(by first | (simp [*]; done) | (go_simp; done) | (go_simp; simp [*]; done)), (by first | (simp [*]; done) | (go_simp; done) | (go_simp; simp [*]; done)), (by first | (simp [*]; done) | (go_simp; done) | (go_simp; simp [*]; done)), (by first | (simp [*]; done) | (go_simp; done) | (go_simp; simp [*]; done))⟩
      refine hK _ _ hHeld8 ?_
      clear hK K hHeld
      have hHeld := hHeld8
      clear hHeld8
      try simp only [Act.put, List.setIfInBounds_toArray, List.set_cons_zero, List.set_cons_succ]
      refine takeH 15 hHeld ?_
      try simp only [Act.put, List.setIfInBounds_toArray, List.set_cons_zero, List.set_cons_succ]
      refine takeH 16 hHeld ?_
      try simp only [Act.put, List.setIfInBounds_toArray, List.set_cons_zero, List.set_cons_succ]
      refine takeH 17 hHeld ?_
      try simp only [Act.put, List.setIfInBounds_toArray, List.set_cons_zero, List.set_cons_succ]
      refine wpAnyH_done (by kernel_rfl) ?_ _
      have hbF : Below w.heap.size w (((U.setCell ⟨g1, 0, none⟩ (.slice A2 n2 c2)).setCell ⟨g1, 1, none⟩ (.slice B m d)).setCell ⟨g1, 2, none⟩ (.int .i64 r)) := ((HbV.out.setCell hg1w _).setCell hg1w _).setCell hg1w _
      have hoF : ∀ g, g ≠ g0 → g ≠ g1 → (((U.setCell ⟨g1, 0, none⟩ (.slice A2 n2 c2)).setCell ⟨g1, 1, none⟩ (.slice B m d)).setCell ⟨g1, 2, none⟩ (.int .i64 r)).heap[g]? = Z.heap[g]? := fun g h1 h2 => (set_other h2 _).trans ((set_other h2 _).trans ((set_other h2 _).trans (HoV.out g h1)))
      have hcF := own0_at P3.out (fun hc a ha => hoF _ (Nc0.out hc a ha) (Nc1.out hc a ha))
      have hiF := own0_at P4.out (fun hc a ha => hoF _ (Ni0.out hc a ha) (Ni1.out hc a ha))
      have HIC := Lib.hid (Ly.isC hcF Wfc.out)
      have HII := Lib.hid (Ly.isI hiF Wfi.out)
      have HFr := Lib.hid (fun (h0 : m2 ≠ 0) a ha => Nat.le_trans hwB (own0_low hiF h0 a ha))
      have HbF := Lib.hid hbF
      have w0 : (((U.setCell ⟨g1, 0, none⟩ (.slice A2 n2 c2)).setCell ⟨g1, 1, none⟩ (.slice B m d)).setCell ⟨g1, 2, none⟩ (.int .i64 r)).cell? ⟨g1, 0, none⟩ = some (.slice A2 n2 c2) := (by first | (simp [*]; done) | (go_simp; done) | (go_simp; simp [*]; done))
      have w1 : (((U.setCell ⟨g1, 0, none⟩ (.slice A2 n2 c2)).setCell ⟨g1, 1, none⟩ (.slice B m d)).setCell ⟨g1, 2, none⟩ (.int .i64 r)).cell? ⟨g1, 1, none⟩ = some (.slice B m d) := (by first | (simp [*]; done) | (go_simp; done) | (go_simp; simp [*]; done))
      have w2 : (((U.setCell ⟨g1, 0, none⟩ (.slice A2 n2 c2)).setCell ⟨g1, 1, none⟩ (.slice B m d)).setCell ⟨g1, 2, none⟩ (.int .i64 r)).cell? ⟨g1, 2, none⟩ = some (.int .i64 r) := (by first | (simp [*]; done) | (go_simp; done) | (go_simp; simp [*]; done))
      clear hbF hoF hcF hiF hHeld
      generalize (((U.setCell ⟨g1, 0, none⟩ (.slice A2 n2 c2)).setCell ⟨g1, 1, none⟩ (.slice B m d)).setCell ⟨g1, 2, none⟩ (.int .i64 r)) = F at *
      go_wp2
      refine bodyPost_ret (v := .tuple #[.agg #[.slice A2 n2 c2, .slice B m d, .int .i64 r], .int .i64 (n : Int), .slice B2 m2 d2, .int .i64 0]) (by simp [results, Try.results20, go_sem, *]) rfl ?_
      unfold RetPut
      rw [HPL.out]
      rw [if_pos (show ((L.length : Nat) : Int) ≤ r from Hfit.out)]
      exact ⟨A2, n2, c2, B2, m2, d2, rfl, HIC.out, HII.out, HbF.out, HFr.out⟩
  · have hd : decide (r < (n2 : Int)) = true := by simp; omega
    have Hfit : Hid (¬ ((L.length : Nat) : Int) ≤ r) := Lib.hid (by rw [HlenL.out]; exact hfit)
    clear hfit
    go_upto_region 8 with fail
    go_quiet (fail)
    go_wp2
    refine bodyPost_ret (v := .tuple #[.agg #[.slice A n c, .slice B m d, .int .i64 r], .int .i64 0, .slice none 0 0, .int .i64 80]) (by simp [results, Try.results20, go_sem, *]) rfl ?_
    unfold RetPut
    rw [HPL.out]
    rw [if_neg (by have h9 := Hfit.out; show ¬ ((L.length : Nat) : Int) ≤ r; omega)]
    exact ⟨rfl, ((((below_drewN Hbw.out _).setCell hg1w _).setCell hg1w _).setCell hg1w _)⟩
end Go.Proofs.Ytlndjooddkjnoaa

/- The walk of the document's Put: a variable that stands somewhere. -/
namespace Go.Proofs.Ytlndjooddkjnoaa
open Go.RowKit

set_option maxRecDepth 100000 in
set_option maxHeartbeats 8000000 in
theorem qPut_b (v : Nat) (A B D At : Option Addr) (n c m d p e k kc : Nat) (r : Int) (l : List C) (a : List Int) (w : World) (h : IsC w A n c l) (ht : IsC w At k kc (Tm.v v).flat) (hD : IsI w D p e a)
    (hT : (Tm.v v).ok = true) (hn : n ≤ 50000) (hp : p ≤ 50000) (hpos : 0 ≤ atA a v) :
    Calls Try.prog 20 #[.agg #[.slice A n c, .slice B m d, .int .i64 r], .slice At k kc, .slice D p e] w (RetPut w A B n c m d r (putA l (.v v) a)) := by
  have hnl := h.len
  have hpl := hD.len
  generalize hPR : putA l (.v v) a = PR
  have HPR := Lib.hid hPR
  clear hPR
  obtain ⟨b0, off0, rfl, hb00, e0, e1, e2, hn0⟩ := ht.tm0
  have hn0' : (0 : Int) < (k : Int) := by omega
  simp only [Tm.c0] at e0 e1 e2
  have HC := Lib.hid h
  have HD := Lib.hid hD
  have HT := Lib.hid ht
  clear h hD ht
  go_enter Try.func20, Try.ntmps20
  go_upto_region 1 with fail
  refine wp_world' (Φ := fun X => Below w.heap.size w X ∧ X.heap.size = w.heap.size + 2 ∧ X.heap[w.heap.size]? = some (.cells #[.slice A n c, .slice B m d, .int .i64 r] 25 (0, 0)) ∧ X.heap[w.heap.size + 1]? = some (.cells #[.slice none 0 0, .slice none 0 0, .int .i64 0] 25 (0, 0)))
    ⟨((Below.refl _ _).alloc (Nat.le_refl _) _).alloc (by first | omega | (simp; done) | (simp; omega)) _, (by first | omega | (simp; done) | (simp; omega)), (alloc_past (by first | omega | (simp; done) | (simp; omega))).trans (alloc_at rfl), alloc_at (by first | omega | (simp; done) | (simp; omega))⟩ ?_
  rintro X ⟨hbX, hX1, x0, x1⟩
  obtain ⟨g0, hg0⟩ : ∃ g0, g0 = w.heap.size := ⟨_, rfl⟩
  obtain ⟨g1, hg1⟩ : ∃ g1, g1 = w.heap.size + 1 := ⟨_, rfl⟩
  rw [← hg1] at x1 ⊢
  rw [← hg0] at x0 ⊢
  have HbX := Lib.hid hbX
  have hg0b : g0 < X.heap.size := by omega
  have hg1b : g1 < X.heap.size := by omega
  have hg0w' : w.heap.size ≤ g0 := by omega
  have hg1w' : w.heap.size ≤ g1 := by omega
  have hg01' : ¬ g0 = g1 := by omega
  have hwB : w.heap.size ≤ X.heap.size := by omega
  obtain ⟨y0, y1, y2, yl⟩ := open3 x0
  clear hX1 hg0 hg1 hbX
  have hRC := Lib.hid (fun (o : Obj) => HC.out.sl.below (HbX.out.alloc hwB o))
  go_upto_region 2 with (first
    | (at_builtin; have hfirst := hRC; go_must (refine wpList_append_sl rfl (.tmp 12) (.tmp 14) 22 rfl X.heap.size 68 Try.underlying22 infoS rfl (by omega) rfl (World.ownsRow_lit X #[] 0 (Nat.le_refl _) (by simp [maxLen]) rfl) rfl (hRC.out _) (oneC l) (by omega) (by omega) (by simp) ?_); go_must (intro A1 c1 w1 hown1 hb1' _ _; have ho1 : w1.ownsRow X.heap.size 68 3 (.slice A1 n c1) n (flatC l) := (by simpa using hown1)); go_must (have hb1 : Below X.heap.size X w1 := ((Below.refl _ _).alloc (Nat.le_refl _) _).trans hb1'; have hx1 := (hb1.block g0 hg0b).trans x0; clear hfirst hRC hown1 hb1'))
    | (at_builtin; go_must (refine wpList_append_sl rfl (.tmp 16) (.tmp 17) 23 rfl w1.heap.size 3 Try.underlying23 infoI rfl (by omega) rfl (World.ownsRow_lit w1 #[] 0 (Nat.le_refl _) (by simp [maxLen]) rfl) rfl (HD.out.sl.below (HbX.out.trans ((hb1.alloc hb1.size _).mono hwB))) (oneI _ a) (by omega) (by omega) (by simp) ?_); intro D1 d1 w2 hown2 hb2' _ _; have ho2 : w2.ownsRow w1.heap.size 3 1 (.slice D1 p d1) p (a.map (Value.int .i64)) := (by simpa using hown2); have hb2 : Below w1.heap.size w1 w2 := ((Below.refl _ _).alloc (Nat.le_refl _) _).trans hb2'; clear hown2 hb2'))
  obtain ⟨bl, hbl⟩ : ∃ bl, bl = w2.heap.size := ⟨_, rfl⟩
  have hs1 := hb1.size
  have hs2 := hb2.size
  rw [← hbl]
  refine wp_world' (Φ := fun Y => Below X.heap.size X Y ∧ Ly Y X.heap.size bl 83 l a ∧ Y.cell? ⟨bl, 0, none⟩ = some (.slice A1 n c1)) ⟨?_, ⟨⟨A1, n, c1, D1, p, d1, by omega, alloc_at hbl.symm, .inr ?_, .inr ?_⟩, HC.out.wf, HD.out.wf⟩, cells_of (alloc_at hbl.symm) 0⟩ ?_
  · exact (hb1.trans (hb2.mono hs1)).alloc (by omega) _
  · exact ((own_below ho1 hb2).alloc _)
  · exact (own_lower ho2 hs1).alloc _
  rintro Y ⟨hbY, hLY, q0⟩
  have hbl2 : X.heap.size ≤ bl := by omega
  have hYb := (hbY.block g0 hg0b).trans x0
  have hbYw := HbX.out.trans (hbY.mono hwB)
  have e0' := (hbYw.cell (p := ⟨b0, off0, none⟩) hb00).trans e0
  have hb0Y : b0 < Y.heap.size := Nat.lt_of_lt_of_le hb00 hbYw.size
  have hYX : X.heap.size ≤ Y.heap.size := hbY.size
  have hlY := hLY.lt.2
  clear ho1 ho2 hb1 hb2 hx1 hs1 hs2 hbl e0
  have hv9 : v ≤ 999 := by simp [Tm.ok] at hT; omega
  have e2' := (hbYw.cell (p := ⟨b0, off0 + 2, none⟩) hb00).trans e2
  have hst := mvariable_any X.heap.size bl l a v Y hLY hv9 hYX (by omega)
  have hd0 : decide (0 ≤ atA a v) = true := by simp; omega
  have hd1 : (atA a v ≥ 0) := by omega
  have Hst := Lib.hid hst
  have HbY := Lib.hid hbY
  have HbYw := Lib.hid hbYw
  have hpt : Hid (((atA a v).toNat : Int) = atA a v) := Lib.hid (by omega)
  have hnn : Hid (¬ atA a v < 0) := Lib.hid (by omega)
  have hlv := extA_len_le a v
  have hlv2 : (extA a v).length ≤ 100000 := by omega
  have haw : i64 (atA a v) := by
    unfold atA
    cases hav : a[v]? with
    | none => exact ⟨by decide, by decide⟩
    | some y => exact HD.out.wf y (List.mem_of_getElem? hav)
  have Haw := Lib.hid haw
  clear hst hbY hLY hYb hbYw hpos hlv haw
  go_upto_region 6 with (first
    | (go_at_call 57; go_must (refine Hst.out.mono ?_); rintro e w3 ⟨rfl, hL3, hb3, hk3, hs3⟩))
  have hst2 := mvariable_any X.heap.size bl l (extA a v) v w3 hL3 hv9 (Nat.le_trans hYX hb3.size) hlv2
  rw [extA_has (extA_len a v), atA_ext] at hst2
  have Hst2 := Lib.hid hst2
  have e23 := (hb3.cell (p := ⟨b0, off0 + 2, none⟩) (show b0 < X.heap.size by omega)).trans e2'
  have hb03 : b0 < w3.heap.size := Nat.lt_of_lt_of_le hb0Y hb3.size
  have Hb3 := Lib.hid (HbY.out.trans hb3)
  clear Hst hst2 hL3 hb3 hk3 hs3
  go_upto_region 8 with (first
    | (go_at_call 57; go_must (refine Hst2.out.mono ?_); rintro e Z ⟨rfl, hLz, hb4, hk4, hs4⟩))
  have hbz := Hb3.out.trans hb4
  clear Hst2 e23 hb03 Hb3 hb4 hk4 hs4
  have hputA : putA l (.v v) a = (l, (atA a v).toNat, extA a v) := by
    simp only [putA, Int.toNat_natCast, if_neg (show ¬ atA a v < 0 by have h9 := hnn.out; omega)]
  have hLlen : l.length ≤ 100000 := by omega
  have HPL : Hid (PR = (l, (atA a v).toNat, extA a v)) := Lib.hid (HPR.out.symm.trans hputA)
  clear HPR hputA e0' hb0Y q0 hlY e2'
  obtain ⟨L, hL⟩ : ∃ L, L = l := ⟨_, rfl⟩
  have hLl : Hid (l = L) := Lib.hid hL.symm
  rw [← hL] at hLz hLlen HPL
  clear hL
  obtain ⟨A2, n2, c2, B2, m2, d2, p1, p2, p3, p4⟩ := hLz.has
  have hlz := own0_len p3
  rw [flatC_len] at hlz
  have HlenL : Hid (L.length = n2) := Lib.hid (by omega)
  have hn2 : n2 ≤ 100000 := by omega
  obtain ⟨r0, r1, rl⟩ := open2 p2
  have z0 := (hbz.block g0 hg0b).trans x0
  have z1 := (hbz.block g1 hg1b).trans x1
  obtain ⟨u0, u1, u2, ul⟩ := open3 z0
  obtain ⟨v0, v1, v2, vl⟩ := open3 z1
  have P3 := Lib.hid p3
  have P4 := Lib.hid p4
  have Wfc := Lib.hid hLz.wfc
  have Wfi := Lib.hid hLz.wfi
  have Nc0 := Lib.hid (own0_ne p3 z0 (by intro cur he; simp at he))
  have Nc1 := Lib.hid (own0_ne p3 z1 (by intro cur he; simp at he))
  have Ni0 := Lib.hid (own0_ne p4 z0 (by intro cur he; simp at he))
  have Ni1 := Lib.hid (own0_ne p4 z1 (by intro cur he; simp at he))
  have Hbw := Lib.hid (HbX.out.trans (hbz.mono hwB))
  have hwZ := Hbw.out.size
  have uf0 := frozen_of z0 0
  have vf0 := frozen_of z1 0
  have vf1 := frozen_of z1 1
  have vf2 := frozen_of z1 2
  have hg0w : w.heap.size ≤ g0 := hg0w'
  have hg1w : w.heap.size ≤ g1 := hg1w'
  have hg01 : ¬ g0 = g1 := hg01'
  have hg0l : ¬ g0 = bl := by omega
  have hg1l : ¬ g1 = bl := by omega
  clear hlz p2 p3 p4 x0 x1 z0 z1 hbz hLz
  by_cases hfit : (n2 : Int) ≤ r
  · have hd : decide (r < (n2 : Int)) = false := by simp; omega
    have Hfit : Hid (((L.length : Nat) : Int) ≤ r) := Lib.hid (by rw [HlenL.out]; exact hfit)
    clear hfit
    go_upto_region 8 with fail
    go_quiet (fail)
    go_upto_region 10 with fail
    refine wp_world' (Φ := fun V => V.cell? ⟨bl, 0, none⟩ = some (.slice A2 n2 c2) ∧ V.cell? ⟨g0, 1, none⟩ = some (.slice B m d) ∧ V.cell? ⟨g0, 2, none⟩ = some (.int .i64 r) ∧ V.cell? ⟨bl, 1, none⟩ = some (.slice B2 m2 d2) ∧
      V.cell? ⟨g1, 0, none⟩ = some (.slice none 0 0) ∧ V.cell? ⟨g1, 1, none⟩ = some (.slice none 0 0) ∧ V.cell? ⟨g1, 2, none⟩ = some (.int .i64 0) ∧ V.frozen? ⟨g1, 0, none⟩ = false ∧ V.frozen? ⟨g1, 1, none⟩ = false ∧ V.frozen? ⟨g1, 2, none⟩ = false ∧
      (∀ g, g ≠ g0 → V.heap[g]? = Z.heap[g]?) ∧ Below w.heap.size w V ∧ g1 < V.heap.size) ⟨(by first | (simp [*]; done) | (go_simp; done) | (go_simp; simp [*]; done)), (by first | (simp [*]; done) | (go_simp; done) | (go_simp; simp [*]; done)), (by first | (simp [*]; done) | (go_simp; done) | (go_simp; simp [*]; done)), (by first | (simp [*]; done) | (go_simp; done) | (go_simp; simp [*]; done)), (by first | (simp [*]; done) | (go_simp; done) | (go_simp; simp [*]; done)), (by first | (simp [*]; done) | (go_simp; done) | (go_simp; simp [*]; done)), (by first | (simp [*]; done) | (go_simp; done) | (go_simp; simp [*]; done)), (by first | (simp [*]; done) | (go_simp; done) | (go_simp; simp [*]; done)), (by first | (simp [*]; done) | (go_simp; done) | (go_simp; simp [*]; done)), (by first | (simp [*]; done) | (go_simp; done) | (go_simp; simp [*]; done)), fun g hg => by simp, below_drewN Hbw.out _, by simpa using vl⟩ ?_
    rintro V ⟨s0, s1, s2, s3, t0, t1, t2, f0, f1, f2, hVo, hVb, hV1⟩
    have HVo := Lib.hid hVo
    have HVb := Lib.hid hVb
    clear hVo hVb u0 u1 u2 ul v0 v1 v2 vl uf0 vf0 vf1 vf2 r0 r1 rl
    refine wp_region_held_drew (S := fun w' => w'.cell? ⟨bl, 0, none⟩ = some (.slice A2 n2 c2) ∧ w'.cell? ⟨g0, 1, none⟩ = some (.slice B m d) ∧ w'.cell? ⟨g0, 2, none⟩ = some (.int .i64 r) ∧ w'.cell? ⟨bl, 1, none⟩ = some (.slice B2 m2 d2)) (by kernel_rfl) ?gs ?gr
    case gs => simp [*]
    case gr =>
      intro hHeld
      have hbV : Below w.heap.size w V.drew := HVb.out.drew
      have hoV : ∀ g, g ≠ g0 → V.drew.heap[g]? = Z.heap[g]? := HVo.out
      have t0' : V.drew.cell? ⟨g1, 0, none⟩ = some (.slice none 0 0) := t0
      have t1' : V.drew.cell? ⟨g1, 1, none⟩ = some (.slice none 0 0) := t1
      have t2' : V.drew.cell? ⟨g1, 2, none⟩ = some (.int .i64 0) := t2
      have f0' : V.drew.frozen? ⟨g1, 0, none⟩ = false := f0
      have f1' : V.drew.frozen? ⟨g1, 1, none⟩ = false := f1
      have f2' : V.drew.frozen? ⟨g1, 2, none⟩ = false := f2
      have hV1' : g1 < V.drew.heap.size := hV1
      have HbV := Lib.hid hbV
      have HoV := Lib.hid hoV
      clear hbV hoV t0 t1 t2 f0 f1 f2 hV1 s0 s1 s2 s3 HVo HVb
      generalize V.drew = U at *
      refine takeH 0 hHeld ?_
      try simp only [Act.put, List.setIfInBounds_toArray, List.set_cons_zero, List.set_cons_succ]
      refine takeH 1 hHeld ?_
      try simp only [Act.put, List.setIfInBounds_toArray, List.set_cons_zero, List.set_cons_succ]
      refine takeH 2 hHeld ?_
      try simp only [Act.put, List.setIfInBounds_toArray, List.set_cons_zero, List.set_cons_succ]
      refine takeH 3 hHeld ?_
      try simp only [Act.put, List.setIfInBounds_toArray, List.set_cons_zero, List.set_cons_succ]
      refine takeH 4 hHeld ?_
      try simp only [Act.put, List.setIfInBounds_toArray, List.set_cons_zero, List.set_cons_succ]
      refine takeH 5 hHeld ?_
      try simp only [Act.put, List.setIfInBounds_toArray, List.set_cons_zero, List.set_cons_succ]
      refine takeH 6 hHeld ?_
      try simp only [Act.put, List.setIfInBounds_toArray, List.set_cons_zero, List.set_cons_succ]
      refine takeH 7 hHeld ?_
      try simp only [Act.put, List.setIfInBounds_toArray, List.set_cons_zero, List.set_cons_succ]
      refine takeH 8 hHeld ?_
      try simp only [Act.put, List.setIfInBounds_toArray, List.set_cons_zero, List.set_cons_succ]
      refine takeH 9 hHeld ?_
      try simp only [Act.put, List.setIfInBounds_toArray, List.set_cons_zero, List.set_cons_succ]
      refine takeH 10 hHeld ?_
      try simp only [Act.put, List.setIfInBounds_toArray, List.set_cons_zero, List.set_cons_succ]
      refine takeH 11 hHeld ?_
      try simp only [Act.put, List.setIfInBounds_toArray, List.set_cons_zero, List.set_cons_succ]
      refine takeH 12 hHeld ?_
      try simp only [Act.put, List.setIfInBounds_toArray, List.set_cons_zero, List.set_cons_succ]
      refine takeH 13 hHeld ?_
      try simp only [Act.put, List.setIfInBounds_toArray, List.set_cons_zero, List.set_cons_succ]
      refine held_one (i := 14) (o := ?oi14u15) (by kernel_rfl) ?hi14u15 (fun K hK => ?rest14u15)
      case hi14u15 => (simp only [List.getElem?_toArray, List.getElem?_cons_succ, List.getElem?_cons_zero]; exact rfl)
      go_simp
      have hHeld8 : (fun w' : World => w'.cell? ⟨bl, 0, none⟩ = some (.slice A2 n2 c2) ∧ w'.cell? ⟨g0, 1, none⟩ = some (.slice B m d) ∧ w'.cell? ⟨g0, 2, none⟩ = some (.int .i64 r) ∧ w'.cell? ⟨bl, 1, none⟩ = some (.slice B2 m2 d2)) (((U.setCell ⟨g1, 0, none⟩ (.slice A2 n2 c2)).setCell ⟨g1, 1, none⟩ (.slice B m d)).setCell ⟨g1, 2, none⟩ (.int .i64 r)) := ⟨(by first | (simp [*]; done) | (go_simp; done) | (go_simp; simp [*]; done)), (by first | (simp [*]; done) | (go_simp; done) | (go_simp; simp [*]; done)), (by first | (simp [*]; done) | (go_simp; done) | (go_simp; simp [*]; done)), (by first | (simp [*]; done) | (go_simp; done) | (go_simp; simp [*]; done))⟩
      refine hK _ _ hHeld8 ?_
      clear hK K hHeld
      have hHeld := hHeld8
      clear hHeld8
      try simp only [Act.put, List.setIfInBounds_toArray, List.set_cons_zero, List.set_cons_succ]
      refine takeH 15 hHeld ?_
      try simp only [Act.put, List.setIfInBounds_toArray, List.set_cons_zero, List.set_cons_succ]
      refine takeH 16 hHeld ?_
      try simp only [Act.put, List.setIfInBounds_toArray, List.set_cons_zero, List.set_cons_succ]
      refine takeH 17 hHeld ?_
      try simp only [Act.put, List.setIfInBounds_toArray, List.set_cons_zero, List.set_cons_succ]
      refine wpAnyH_done (by kernel_rfl) ?_ _
      have hbF : Below w.heap.size w (((U.setCell ⟨g1, 0, none⟩ (.slice A2 n2 c2)).setCell ⟨g1, 1, none⟩ (.slice B m d)).setCell ⟨g1, 2, none⟩ (.int .i64 r)) := ((HbV.out.setCell hg1w _).setCell hg1w _).setCell hg1w _
      have hoF : ∀ g, g ≠ g0 → g ≠ g1 → (((U.setCell ⟨g1, 0, none⟩ (.slice A2 n2 c2)).setCell ⟨g1, 1, none⟩ (.slice B m d)).setCell ⟨g1, 2, none⟩ (.int .i64 r)).heap[g]? = Z.heap[g]? := fun g h1 h2 => (set_other h2 _).trans ((set_other h2 _).trans ((set_other h2 _).trans (HoV.out g h1)))
      have hcF := own0_at P3.out (fun hc a ha => hoF _ (Nc0.out hc a ha) (Nc1.out hc a ha))
      have hiF := own0_at P4.out (fun hc a ha => hoF _ (Ni0.out hc a ha) (Ni1.out hc a ha))
      have HIC := Lib.hid (Ly.isC hcF Wfc.out)
      have HII := Lib.hid (Ly.isI hiF Wfi.out)
      have HFr := Lib.hid (fun (h0 : m2 ≠ 0) a ha => Nat.le_trans hwB (own0_low hiF h0 a ha))
      have HbF := Lib.hid hbF
      have w0 : (((U.setCell ⟨g1, 0, none⟩ (.slice A2 n2 c2)).setCell ⟨g1, 1, none⟩ (.slice B m d)).setCell ⟨g1, 2, none⟩ (.int .i64 r)).cell? ⟨g1, 0, none⟩ = some (.slice A2 n2 c2) := (by first | (simp [*]; done) | (go_simp; done) | (go_simp; simp [*]; done))
      have w1 : (((U.setCell ⟨g1, 0, none⟩ (.slice A2 n2 c2)).setCell ⟨g1, 1, none⟩ (.slice B m d)).setCell ⟨g1, 2, none⟩ (.int .i64 r)).cell? ⟨g1, 1, none⟩ = some (.slice B m d) := (by first | (simp [*]; done) | (go_simp; done) | (go_simp; simp [*]; done))
      have w2 : (((U.setCell ⟨g1, 0, none⟩ (.slice A2 n2 c2)).setCell ⟨g1, 1, none⟩ (.slice B m d)).setCell ⟨g1, 2, none⟩ (.int .i64 r)).cell? ⟨g1, 2, none⟩ = some (.int .i64 r) := (by first | (simp [*]; done) | (go_simp; done) | (go_simp; simp [*]; done))
      clear hbF hoF hcF hiF hHeld
      generalize (((U.setCell ⟨g1, 0, none⟩ (.slice A2 n2 c2)).setCell ⟨g1, 1, none⟩ (.slice B m d)).setCell ⟨g1, 2, none⟩ (.int .i64 r)) = F at *
      go_wp2
      refine bodyPost_ret (v := .tuple #[.agg #[.slice A2 n2 c2, .slice B m d, .int .i64 r], .int .i64 (atA a v), .slice B2 m2 d2, .int .i64 0]) (by simp [results, Try.results20, go_sem, *]) rfl ?_
      unfold RetPut
      rw [HPL.out]
      rw [if_pos (show ((L.length : Nat) : Int) ≤ r from Hfit.out)]
      exact ⟨A2, n2, c2, B2, m2, d2, by rw [hpt.out], HIC.out, HII.out, HbF.out, HFr.out⟩
  · have hd : decide (r < (n2 : Int)) = true := by simp; omega
    have Hfit : Hid (¬ ((L.length : Nat) : Int) ≤ r) := Lib.hid (by rw [HlenL.out]; exact hfit)
    clear hfit
    go_upto_region 8 with fail
    go_quiet (fail)
    go_wp2
    refine bodyPost_ret (v := .tuple #[.agg #[.slice A n c, .slice B m d, .int .i64 r], .int .i64 0, .slice none 0 0, .int .i64 80]) (by simp [results, Try.results20, go_sem, *]) rfl ?_
    unfold RetPut
    rw [HPL.out]
    rw [if_neg (by have h9 := Hfit.out; show ¬ ((L.length : Nat) : Int) ≤ r; omega)]
    exact ⟨rfl, ((((below_drewN Hbw.out _).setCell hg1w _).setCell hg1w _).setCell hg1w _)⟩

/-- putting, as the document does it -/
theorem qPut_any (T : Tm) (A B D At : Option Addr) (n c m d p e k kc : Nat) (r : Int) (l : List C) (a : List Int) (w : World) (h : IsC w A n c l) (ht : IsC w At k kc T.flat) (hD : IsI w D p e a)
    (hT : T.ok = true) (hTs : T.size ≤ 200) (hn : n ≤ 50000) (hp : p ≤ 50000) :
    Calls Try.prog 20 #[.agg #[.slice A n c, .slice B m d, .int .i64 r], .slice At k kc, .slice D p e] w (RetPut w A B n c m d r (putA l T a)) := by
  cases T with
  | f s us => exact qPut_f s us A B D At n c m d p e k kc r l a w h ht hD hT hTs hn hp
  | i x => exact qPut_i x A B D At n c m d p e k kc r l a w h ht hD hT hn hp
  | v x =>
    have hx : 0 ≤ x := by
      simp [Tm.ok] at hT
      omega
    obtain ⟨v, rfl⟩ : ∃ v : Nat, x = v := ⟨x.toNat, by omega⟩
    by_cases hneg : atA a v < 0
    · exact qPut_v v A B D At n c m d p e k kc r l a w h ht hD hT hn hp hneg
    · exact qPut_b v A B D At n c m d p e k kc r l a w h ht hD hT hn hp (by omega)
end Go.Proofs.Ytlndjooddkjnoaa
