/- Texts of this proof that belong together: words of memory, plain laws, walks. -/
import Derived.Test.YtgipiplklaeplaaDoorB09
import Derived.Test.YtgipiplklaeplaaDoorB13
set_option linter.unusedVariables false
set_option linter.unusedSimpArgs false
namespace Go.Proofs.YtgipiplklaeplaaDoor
open Go.RowKit
set_option maxRecDepth 100000 in
set_option maxHeartbeats 8000000 in
theorem hPut_i (x : Int) (A B D At : Option Addr) (n c m d p e k kc : Nat) (r : Int) (l : List C) (a : List Int) (w : World) (h : IsC w A n c l) (ht : IsC w At k kc (Tm.i x).flat) (hD : IsI w D p e a)
  (hT : (Tm.i x).ok = true) (hn : n ≤ 50000) (hp : p ≤ 50000) :
  Calls Tryd.prog 40 #[.agg #[.slice A n c, .slice B m d, .int .i64 r], .slice At k kc, .slice D p e] w (RetPut w A B n c m d r (putA l (.i x) a)) := by
 have hnl := h.len
 have hpl := hD.len
 generalize hPR : putA l (.i x) a = PR
 have HPR := Lib.hid hPR
 clear hPR
 obtain ⟨b0, off0, rfl, hb00, e0, e1, e2, hn0⟩ := ht.tm0
 have hn0' : (0 : Int) < (k : Int) := by omega
 simp only [Tm.c0] at e0 e1 e2
 have HC := Lib.hid h
 have HD := Lib.hid hD
 have HT := Lib.hid ht
 clear h hD ht
 have hcs := fun wz (hb : Below w.heap.size w wz) => cloneS_any A n c l wz (HC.out.below hb) (by omega)
 have hci := fun wz (hb : Below w.heap.size w wz) => cloneI_any D p e a wz (HD.out.below hb) (by omega)
 have Hcs := Lib.hid hcs
 have Hci := Lib.hid hci
 clear hcs hci
 go_enter Tryd.func40, Tryd.ntmps40
 go_upto_region 1 with fail
 refine wp_world' (Φ := fun X => Below w.heap.size w X ∧ X.heap.size = w.heap.size + 2 ∧ X.heap[w.heap.size]? = some (.cells #[.slice A n c, .slice B m d, .int .i64 r] 44 (0, 0)) ∧ X.heap[w.heap.size + 1]? = some (.cells #[.slice none 0 0, .slice none 0 0, .int .i64 0] 44 (0, 0)))
  ⟨((Below.refl _ _).alloc (Nat.le_refl _) _).alloc (by first | omega | (simp; done) | (simp; omega)) _, (by first | omega | (simp; done) | (simp; omega)), (alloc_past (by first | omega | (simp; done) | (simp; omega))).trans (alloc_at rfl), alloc_at (by first | omega | (simp; done) | (simp; omega))⟩ ?_
 rintro X ⟨hbX, hX1, x0, x1⟩
 obtain ⟨g0, hg0⟩ : ∃ g0, g0 = w.heap.size := ⟨_, rfl⟩
 obtain ⟨g1, hg1⟩ : ∃ g1, g1 = w.heap.size + 1 := ⟨_, rfl⟩
 rw [← hg1] at x1 ⊢
 rw [← hg0] at x0 ⊢
 have HbX := Lib.hid hbX
 have hg0b : g0 < X.heap.size := by omega
 have hg1b : g1 < X.heap.size := by omega
 have hg0w' : w.heap.size ≤ g0 := by omega
 have hg1w' : w.heap.size ≤ g1 := by omega
 have hg01' : ¬ g0 = g1 := by omega
 have hwB : w.heap.size ≤ X.heap.size := by omega
 obtain ⟨y0, y1, y2, yl⟩ := open3 x0
 clear hX1 hg0 hg1 hbX
 go_upto_region 2 with (first
  | (go_at_call 56; go_must (refine (Hcs.out _ HbX.out).mono ?_); rintro e w1 ⟨A1, c1, rfl, ho1, hb1⟩; have hx1 := (hb1.block g0 hg0b).trans x0)
  | (go_at_call 57; go_must (refine (Hci.out _ (HbX.out.trans (hb1.mono hwB))).mono ?_); rintro e w2 ⟨D1, d1, rfl, ho2, hb2⟩))
 obtain ⟨bl, hbl⟩ : ∃ bl, bl = w2.heap.size := ⟨_, rfl⟩
 have hs1 := hb1.size
 have hs2 := hb2.size
 rw [← hbl]
 refine wp_world' (Φ := fun Y => Below X.heap.size X Y ∧ Ly Y X.heap.size bl 136 l a ∧ Y.cell? ⟨bl, 0, none⟩ = some (.slice A1 n c1)) ⟨?_, ⟨⟨A1, n, c1, D1, p, d1, by omega, alloc_at hbl.symm, .inr ?_, .inr ?_⟩, HC.out.wf, HD.out.wf⟩, cells_of (alloc_at hbl.symm) 0⟩ ?_
 ·exact (hb1.trans (hb2.mono hs1)).alloc (by omega) _
 ·exact ((own_below ho1 hb2).alloc _)
 ·exact (own_lower ho2 hs1).alloc _
 rintro Y ⟨hbY, hLY, q0⟩
 have hbl2 : X.heap.size ≤ bl := by omega
 have hYb := (hbY.block g0 hg0b).trans x0
 have hbYw := HbX.out.trans (hbY.mono hwB)
 have e0' := (hbYw.cell (p := ⟨b0, off0, none⟩) hb00).trans e0
 have hb0Y : b0 < Y.heap.size := Nat.lt_of_lt_of_le hb00 hbYw.size
 have hYX : X.heap.size ≤ Y.heap.size := hbY.size
 have hlY := hLY.lt.2
 clear ho1 ho2 hb1 hb2 hx1 hs1 hs2 hbl e0
 have hsl := lslot_any w X.heap.size bl l a (Tm.i x) (some ⟨b0, off0, none⟩) k kc Y HT.out hbYw hwB hLY hT (by omega) (by omega) hYX
 have Hsl := Lib.hid hsl
 have HbY := Lib.hid hbY
 clear hsl hbY hLY hYb hbYw
 go_upto_region 8 with (first
  | (go_at_call 78; go_must (refine Hsl.out.mono ?_); rintro e Z ⟨rfl, hLz, hbz0, hkz⟩))
 have hbz := HbY.out.trans hbz0
 have hputA : putA l (.i x) a = (l ++ [(slotA (.i x) l.length 0 a).1], l.length, (slotA (.i x) l.length 0 a).2) := rfl
 have hLlen : (l ++ [(slotA (.i x) l.length 0 a).1]).length ≤ 100000 := by simp; omega
 have HPL : Hid (PR = (l ++ [(slotA (.i x) l.length 0 a).1], l.length, (slotA (.i x) l.length 0 a).2)) := Lib.hid (HPR.out.symm.trans hputA)
 clear hbz0 hkz Hsl
 clear HPR hputA
 generalize l ++ [(slotA (.i x) l.length 0 a).1] = L at *
 generalize (slotA (.i x) l.length 0 a).2 = b at *
 clear e0' hb0Y q0 hlY
 obtain ⟨A2, n2, c2, B2, m2, d2, p1, p2, p3, p4⟩ := hLz.has
 have hlz := own0_len p3
 rw [flatC_len] at hlz
 have HlenL : Hid (L.length = n2) := Lib.hid (by omega)
 have hn2 : n2 ≤ 100000 := by omega
 obtain ⟨r0, r1, rl⟩ := open2 p2
 have z0 := (hbz.block g0 hg0b).trans x0
 have z1 := (hbz.block g1 hg1b).trans x1
 obtain ⟨u0, u1, u2, ul⟩ := open3 z0
 obtain ⟨v0, v1, v2, vl⟩ := open3 z1
 have P3 := Lib.hid p3
 have P4 := Lib.hid p4
 have Wfc := Lib.hid hLz.wfc
 have Wfi := Lib.hid hLz.wfi
 have Nc0 := Lib.hid (own0_ne p3 z0 (by intro cur he; simp at he))
 have Nc1 := Lib.hid (own0_ne p3 z1 (by intro cur he; simp at he))
 have Ni0 := Lib.hid (own0_ne p4 z0 (by intro cur he; simp at he))
 have Ni1 := Lib.hid (own0_ne p4 z1 (by intro cur he; simp at he))
 have Hbw := Lib.hid (HbX.out.trans (hbz.mono hwB))
 have hwZ := Hbw.out.size
 have uf0 := frozen_of z0 0
 have vf0 := frozen_of z1 0
 have vf1 := frozen_of z1 1
 have vf2 := frozen_of z1 2
 have hg0w : w.heap.size ≤ g0 := hg0w'
 have hg1w : w.heap.size ≤ g1 := hg1w'
 have hg01 : ¬ g0 = g1 := hg01'
 have hg0l : ¬ g0 = bl := by omega
 have hg1l : ¬ g1 = bl := by omega
 clear hlz p2 p3 p4 x0 x1 z0 z1 hbz hLz
 by_cases hfit : (n2 : Int) ≤ r
 ·have hd : decide (r < (n2 : Int)) = false := by simp; omega
  have Hfit : Hid (((L.length : Nat) : Int) ≤ r) := Lib.hid (by rw [HlenL.out]; exact hfit)
  clear hfit
  go_upto_region 8 with fail
  go_quiet (fail)
  go_upto_region 11 with fail
  refine wp_world' (Φ := fun V => V.cell? ⟨g0, 0, none⟩ = some (.slice A2 n2 c2) ∧ V.cell? ⟨g0, 1, none⟩ = some (.slice B m d) ∧ V.cell? ⟨g0, 2, none⟩ = some (.int .i64 r) ∧ V.cell? ⟨bl, 1, none⟩ = some (.slice B2 m2 d2) ∧
   V.cell? ⟨g1, 0, none⟩ = some (.slice none 0 0) ∧ V.cell? ⟨g1, 1, none⟩ = some (.slice none 0 0) ∧ V.cell? ⟨g1, 2, none⟩ = some (.int .i64 0) ∧ V.frozen? ⟨g1, 0, none⟩ = false ∧ V.frozen? ⟨g1, 1, none⟩ = false ∧ V.frozen? ⟨g1, 2, none⟩ = false ∧
   (∀ g, g ≠ g0 → V.heap[g]? = Z.heap[g]?) ∧ Below w.heap.size w V ∧ g1 < V.heap.size) ⟨(by first | (simp [*]; done) | (go_simp; done) | (go_simp; simp [*]; done)), (by first | (simp [*]; done) | (go_simp; done) | (go_simp; simp [*]; done)), (by first | (simp [*]; done) | (go_simp; done) | (go_simp; simp [*]; done)), (by first | (simp [*]; done) | (go_simp; done) | (go_simp; simp [*]; done)), (by first | (simp [*]; done) | (go_simp; done) | (go_simp; simp [*]; done)), (by first | (simp [*]; done) | (go_simp; done) | (go_simp; simp [*]; done)), (by first | (simp [*]; done) | (go_simp; done) | (go_simp; simp [*]; done)), (by first | (simp [*]; done) | (go_simp; done) | (go_simp; simp [*]; done)), (by first | (simp [*]; done) | (go_simp; done) | (go_simp; simp [*]; done)), (by first | (simp [*]; done) | (go_simp; done) | (go_simp; simp [*]; done)), fun g hg => set_other hg _, (below_drewN Hbw.out _).setCell hg0w _, by simpa using vl⟩ ?_
  rintro V ⟨s0, s1, s2, s3, t0, t1, t2, f0, f1, f2, hVo, hVb, hV1⟩
  have HVo := Lib.hid hVo
  have HVb := Lib.hid hVb
  clear hVo hVb u0 u1 u2 ul v0 v1 v2 vl uf0 vf0 vf1 vf2 r0 r1 rl
  refine wp_region_held_drew (S := fun w' => w'.cell? ⟨g0, 0, none⟩ = some (.slice A2 n2 c2) ∧ w'.cell? ⟨g0, 1, none⟩ = some (.slice B m d) ∧ w'.cell? ⟨g0, 2, none⟩ = some (.int .i64 r) ∧ w'.cell? ⟨bl, 1, none⟩ = some (.slice B2 m2 d2)) (by kernel_rfl) ?gs ?gr
  case gs => simp [*]
  case gr =>
   intro hHeld
   have hbV : Below w.heap.size w V.drew := HVb.out.drew
   have hoV : ∀ g, g ≠ g0 → V.drew.heap[g]? = Z.heap[g]? := HVo.out
   have t0' : V.drew.cell? ⟨g1, 0, none⟩ = some (.slice none 0 0) := t0
   have t1' : V.drew.cell? ⟨g1, 1, none⟩ = some (.slice none 0 0) := t1
   have t2' : V.drew.cell? ⟨g1, 2, none⟩ = some (.int .i64 0) := t2
   have f0' : V.drew.frozen? ⟨g1, 0, none⟩ = false := f0
   have f1' : V.drew.frozen? ⟨g1, 1, none⟩ = false := f1
   have f2' : V.drew.frozen? ⟨g1, 2, none⟩ = false := f2
   have hV1' : g1 < V.drew.heap.size := hV1
   have HbV := Lib.hid hbV
   have HoV := Lib.hid hoV
   clear hbV hoV t0 t1 t2 f0 f1 f2 hV1 s0 s1 s2 s3 HVo HVb
   generalize V.drew = U at *
   refine stepH 0 hHeld ?_
   refine stepH 1 hHeld ?_
   refine stepH 2 hHeld ?_
   refine stepH 3 hHeld ?_
   refine stepH 4 hHeld ?_
   refine stepH 5 hHeld ?_
   refine oneH 6 (fun K hK => ?_)
   go_simp
   have hHeld8 : (fun w' : World => w'.cell? ⟨g0, 0, none⟩ = some (.slice A2 n2 c2) ∧ w'.cell? ⟨g0, 1, none⟩ = some (.slice B m d) ∧ w'.cell? ⟨g0, 2, none⟩ = some (.int .i64 r) ∧ w'.cell? ⟨bl, 1, none⟩ = some (.slice B2 m2 d2)) (((U.setCell ⟨g1, 0, none⟩ (.slice A2 n2 c2)).setCell ⟨g1, 1, none⟩ (.slice B m d)).setCell ⟨g1, 2, none⟩ (.int .i64 r)) := ⟨(by first | (simp [*]; done) | (go_simp; done) | (go_simp; simp [*]; done)), (by first | (simp [*]; done) | (go_simp; done) | (go_simp; simp [*]; done)), (by first | (simp [*]; done) | (go_simp; done) | (go_simp; simp [*]; done)), (by first | (simp [*]; done) | (go_simp; done) | (go_simp; simp [*]; done))⟩
   refine hK _ _ hHeld8 ?_
   clear hK K hHeld
   have hHeld := hHeld8
   clear hHeld8
   try simp only [Act.put, sA, sZ, sS]
   refine stepH 7 hHeld ?_
   refine stepH 8 hHeld ?_
   refine stepH 9 hHeld ?_
   refine wpAnyH_done (by kernel_rfl) ?_ _
   have hbF : Below w.heap.size w (((U.setCell ⟨g1, 0, none⟩ (.slice A2 n2 c2)).setCell ⟨g1, 1, none⟩ (.slice B m d)).setCell ⟨g1, 2, none⟩ (.int .i64 r)) := ((HbV.out.setCell hg1w _).setCell hg1w _).setCell hg1w _
   have hoF : ∀ g, g ≠ g0 → g ≠ g1 → (((U.setCell ⟨g1, 0, none⟩ (.slice A2 n2 c2)).setCell ⟨g1, 1, none⟩ (.slice B m d)).setCell ⟨g1, 2, none⟩ (.int .i64 r)).heap[g]? = Z.heap[g]? := fun g h1 h2 => (set_other h2 _).trans ((set_other h2 _).trans ((set_other h2 _).trans (HoV.out g h1)))
   have hcF := own0_at P3.out (fun hc a ha => hoF _ (Nc0.out hc a ha) (Nc1.out hc a ha))
   have hiF := own0_at P4.out (fun hc a ha => hoF _ (Ni0.out hc a ha) (Ni1.out hc a ha))
   have HIC := Lib.hid (Ly.isC hcF Wfc.out)
   have HII := Lib.hid (Ly.isI hiF Wfi.out)
   have HFr := Lib.hid (fun (h0 : m2 ≠ 0) a ha => Nat.le_trans hwB (own0_low hiF h0 a ha))
   have HbF := Lib.hid hbF
   have w0 : (((U.setCell ⟨g1, 0, none⟩ (.slice A2 n2 c2)).setCell ⟨g1, 1, none⟩ (.slice B m d)).setCell ⟨g1, 2, none⟩ (.int .i64 r)).cell? ⟨g1, 0, none⟩ = some (.slice A2 n2 c2) := (by first | (simp [*]; done) | (go_simp; done) | (go_simp; simp [*]; done))
   have w1 : (((U.setCell ⟨g1, 0, none⟩ (.slice A2 n2 c2)).setCell ⟨g1, 1, none⟩ (.slice B m d)).setCell ⟨g1, 2, none⟩ (.int .i64 r)).cell? ⟨g1, 1, none⟩ = some (.slice B m d) := (by first | (simp [*]; done) | (go_simp; done) | (go_simp; simp [*]; done))
   have w2 : (((U.setCell ⟨g1, 0, none⟩ (.slice A2 n2 c2)).setCell ⟨g1, 1, none⟩ (.slice B m d)).setCell ⟨g1, 2, none⟩ (.int .i64 r)).cell? ⟨g1, 2, none⟩ = some (.int .i64 r) := (by first | (simp [*]; done) | (go_simp; done) | (go_simp; simp [*]; done))
   clear hbF hoF hcF hiF hHeld
   generalize (((U.setCell ⟨g1, 0, none⟩ (.slice A2 n2 c2)).setCell ⟨g1, 1, none⟩ (.slice B m d)).setCell ⟨g1, 2, none⟩ (.int .i64 r)) = F at *
   go_wp2
   refine bodyPost_ret (v := .tuple #[.agg #[.slice A2 n2 c2, .slice B m d, .int .i64 r], .int .i64 (n : Int), .slice B2 m2 d2, .int .i64 0]) (by simp [results, Tryd.results40, go_sem, *]) rfl ?_
   unfold RetPut
   rw [HPL.out]
   rw [if_pos (show ((L.length : Nat) : Int) ≤ r from Hfit.out)]
   exact ⟨A2, n2, c2, B2, m2, d2, by rw [hnl], HIC.out, HII.out, HbF.out, HFr.out⟩
 ·have hd : decide (r < (n2 : Int)) = true := by simp; omega
  have Hfit : Hid (¬ ((L.length : Nat) : Int) ≤ r) := Lib.hid (by rw [HlenL.out]; exact hfit)
  clear hfit
  go_upto_region 8 with fail
  go_quiet (fail)
  go_wp2
  refine bodyPost_ret (v := .tuple #[.agg #[.slice A n c, .slice B m d, .int .i64 r], .int .i64 0, .slice none 0 0, .int .i64 80]) (by simp [results, Tryd.results40, go_sem, *]) rfl ?_
  unfold RetPut
  rw [HPL.out]
  rw [if_neg (by have h9 := Hfit.out; show ¬ ((L.length : Nat) : Int) ≤ r; omega)]
  exact ⟨rfl, ((((below_drewN Hbw.out _).setCell hg1w _).setCell hg1w _).setCell hg1w _)⟩
end Go.Proofs.YtgipiplklaeplaaDoor
namespace Go.Proofs.YtgipiplklaeplaaDoor
open Go.RowKit
set_option maxRecDepth 100000 in
set_option maxHeartbeats 8000000 in
theorem hPut_v (v : Nat) (A B D At : Option Addr) (n c m d p e k kc : Nat) (r : Int) (l : List C) (a : List Int) (w : World) (h : IsC w A n c l) (ht : IsC w At k kc (Tm.v v).flat) (hD : IsI w D p e a)
  (hT : (Tm.v v).ok = true) (hn : n ≤ 50000) (hp : p ≤ 50000) (hneg : atA a v < 0) :
  Calls Tryd.prog 40 #[.agg #[.slice A n c, .slice B m d, .int .i64 r], .slice At k kc, .slice D p e] w (RetPut w A B n c m d r (putA l (.v v) a)) := by
 have hnl := h.len
 have hpl := hD.len
 generalize hPR : putA l (.v v) a = PR
 have HPR := Lib.hid hPR
 clear hPR
 obtain ⟨b0, off0, rfl, hb00, e0, e1, e2, hn0⟩ := ht.tm0
 have hn0' : (0 : Int) < (k : Int) := by omega
 simp only [Tm.c0] at e0 e1 e2
 have HC := Lib.hid h
 have HD := Lib.hid hD
 have HT := Lib.hid ht
 clear h hD ht
 have hcs := fun wz (hb : Below w.heap.size w wz) => cloneS_any A n c l wz (HC.out.below hb) (by omega)
 have hci := fun wz (hb : Below w.heap.size w wz) => cloneI_any D p e a wz (HD.out.below hb) (by omega)
 have Hcs := Lib.hid hcs
 have Hci := Lib.hid hci
 clear hcs hci
 go_enter Tryd.func40, Tryd.ntmps40
 go_upto_region 1 with fail
 refine wp_world' (Φ := fun X => Below w.heap.size w X ∧ X.heap.size = w.heap.size + 2 ∧ X.heap[w.heap.size]? = some (.cells #[.slice A n c, .slice B m d, .int .i64 r] 44 (0, 0)) ∧ X.heap[w.heap.size + 1]? = some (.cells #[.slice none 0 0, .slice none 0 0, .int .i64 0] 44 (0, 0)))
  ⟨((Below.refl _ _).alloc (Nat.le_refl _) _).alloc (by first | omega | (simp; done) | (simp; omega)) _, (by first | omega | (simp; done) | (simp; omega)), (alloc_past (by first | omega | (simp; done) | (simp; omega))).trans (alloc_at rfl), alloc_at (by first | omega | (simp; done) | (simp; omega))⟩ ?_
 rintro X ⟨hbX, hX1, x0, x1⟩
 obtain ⟨g0, hg0⟩ : ∃ g0, g0 = w.heap.size := ⟨_, rfl⟩
 obtain ⟨g1, hg1⟩ : ∃ g1, g1 = w.heap.size + 1 := ⟨_, rfl⟩
 rw [← hg1] at x1 ⊢
 rw [← hg0] at x0 ⊢
 have HbX := Lib.hid hbX
 have hg0b : g0 < X.heap.size := by omega
 have hg1b : g1 < X.heap.size := by omega
 have hg0w' : w.heap.size ≤ g0 := by omega
 have hg1w' : w.heap.size ≤ g1 := by omega
 have hg01' : ¬ g0 = g1 := by omega
 have hwB : w.heap.size ≤ X.heap.size := by omega
 obtain ⟨y0, y1, y2, yl⟩ := open3 x0
 clear hX1 hg0 hg1 hbX
 go_upto_region 2 with (first
  | (go_at_call 56; go_must (refine (Hcs.out _ HbX.out).mono ?_); rintro e w1 ⟨A1, c1, rfl, ho1, hb1⟩; have hx1 := (hb1.block g0 hg0b).trans x0)
  | (go_at_call 57; go_must (refine (Hci.out _ (HbX.out.trans (hb1.mono hwB))).mono ?_); rintro e w2 ⟨D1, d1, rfl, ho2, hb2⟩))
 obtain ⟨bl, hbl⟩ : ∃ bl, bl = w2.heap.size := ⟨_, rfl⟩
 have hs1 := hb1.size
 have hs2 := hb2.size
 rw [← hbl]
 refine wp_world' (Φ := fun Y => Below X.heap.size X Y ∧ Ly Y X.heap.size bl 136 l a ∧ Y.cell? ⟨bl, 0, none⟩ = some (.slice A1 n c1)) ⟨?_, ⟨⟨A1, n, c1, D1, p, d1, by omega, alloc_at hbl.symm, .inr ?_, .inr ?_⟩, HC.out.wf, HD.out.wf⟩, cells_of (alloc_at hbl.symm) 0⟩ ?_
 ·exact (hb1.trans (hb2.mono hs1)).alloc (by omega) _
 ·exact ((own_below ho1 hb2).alloc _)
 ·exact (own_lower ho2 hs1).alloc _
 rintro Y ⟨hbY, hLY, q0⟩
 have hbl2 : X.heap.size ≤ bl := by omega
 have hYb := (hbY.block g0 hg0b).trans x0
 have hbYw := HbX.out.trans (hbY.mono hwB)
 have e0' := (hbYw.cell (p := ⟨b0, off0, none⟩) hb00).trans e0
 have hb0Y : b0 < Y.heap.size := Nat.lt_of_lt_of_le hb00 hbYw.size
 have hYX : X.heap.size ≤ Y.heap.size := hbY.size
 have hlY := hLY.lt.2
 clear ho1 ho2 hb1 hb2 hx1 hs1 hs2 hbl e0
 have hv9 : v ≤ 999 := by simp [Tm.ok] at hT; omega
 have e2' := (hbYw.cell (p := ⟨b0, off0 + 2, none⟩) hb00).trans e2
 have hst := lstands_any X.heap.size bl l a v Y hLY hv9 hYX (by omega)
 have hd0 : decide (0 ≤ atA a v) = false := by simp; omega
 have hd1 : ¬ (atA a v ≥ 0) := by omega
 have Hst := Lib.hid hst
 have HbY := Lib.hid hbY
 have HbYw := Lib.hid hbYw
 have Hneg := Lib.hid hneg
 have hlv := extA_len_le a v
 have hlv2 : (extA a v).length ≤ 100000 := by omega
 have haw : i64 (atA a v) := by
  unfold atA
  cases hav : a[v]? with
  | none => exact ⟨by decide, by decide⟩
  | some y => exact HD.out.wf y (List.mem_of_getElem? hav)
 have Haw := Lib.hid haw
 clear hst hbY hLY hYb hbYw hneg hlv haw
 go_upto_region 8 with (first
  | (go_at_call 77; go_must (refine Hst.out.mono ?_); rintro e w3 ⟨rfl, hL3, hb3, hk3⟩)
  | (go_at_call 78; go_must (refine (lslot_any w X.heap.size bl l (extA a v) (Tm.v v) (some ⟨b0, off0, none⟩) k kc w3 HT.out (HbYw.out.trans (hb3.mono hwB)) hwB hL3 hT (by omega) hlv2 (Nat.le_trans hYX hb3.size)).mono ?_); rintro e Z ⟨rfl, hLz, hbz0, hkz⟩))
 have hbz := HbY.out.trans (hb3.trans hbz0)
 have hputA : putA l (.v v) a = (l ++ [(slotA (.v v) l.length 0 (extA a v)).1], l.length, (slotA (.v v) l.length 0 (extA a v)).2) := by
  simp only [putA, slotA_v, Int.toNat_natCast, if_pos Hneg.out, atA_ext, extA_has (extA_len a v)]
 have hLlen : (l ++ [(slotA (.v v) l.length 0 (extA a v)).1]).length ≤ 100000 := by simp; omega
 have HPL : Hid (PR = (l ++ [(slotA (.v v) l.length 0 (extA a v)).1], l.length, (slotA (.v v) l.length 0 (extA a v)).2)) := Lib.hid (HPR.out.symm.trans hputA)
 clear hbz0 hkz Hst hL3 hb3 hk3
 clear HPR hputA
 generalize l ++ [(slotA (.v v) l.length 0 (extA a v)).1] = L at *
 generalize (slotA (.v v) l.length 0 (extA a v)).2 = b at *
 clear e0' hb0Y q0 hlY e2'
 obtain ⟨A2, n2, c2, B2, m2, d2, p1, p2, p3, p4⟩ := hLz.has
 have hlz := own0_len p3
 rw [flatC_len] at hlz
 have HlenL : Hid (L.length = n2) := Lib.hid (by omega)
 have hn2 : n2 ≤ 100000 := by omega
 obtain ⟨r0, r1, rl⟩ := open2 p2
 have z0 := (hbz.block g0 hg0b).trans x0
 have z1 := (hbz.block g1 hg1b).trans x1
 obtain ⟨u0, u1, u2, ul⟩ := open3 z0
 obtain ⟨v0, v1, v2, vl⟩ := open3 z1
 have P3 := Lib.hid p3
 have P4 := Lib.hid p4
 have Wfc := Lib.hid hLz.wfc
 have Wfi := Lib.hid hLz.wfi
 have Nc0 := Lib.hid (own0_ne p3 z0 (by intro cur he; simp at he))
 have Nc1 := Lib.hid (own0_ne p3 z1 (by intro cur he; simp at he))
 have Ni0 := Lib.hid (own0_ne p4 z0 (by intro cur he; simp at he))
 have Ni1 := Lib.hid (own0_ne p4 z1 (by intro cur he; simp at he))
 have Hbw := Lib.hid (HbX.out.trans (hbz.mono hwB))
 have hwZ := Hbw.out.size
 have uf0 := frozen_of z0 0
 have vf0 := frozen_of z1 0
 have vf1 := frozen_of z1 1
 have vf2 := frozen_of z1 2
 have hg0w : w.heap.size ≤ g0 := hg0w'
 have hg1w : w.heap.size ≤ g1 := hg1w'
 have hg01 : ¬ g0 = g1 := hg01'
 have hg0l : ¬ g0 = bl := by omega
 have hg1l : ¬ g1 = bl := by omega
 clear hlz p2 p3 p4 x0 x1 z0 z1 hbz hLz
 by_cases hfit : (n2 : Int) ≤ r
 ·have hd : decide (r < (n2 : Int)) = false := by simp; omega
  have Hfit : Hid (((L.length : Nat) : Int) ≤ r) := Lib.hid (by rw [HlenL.out]; exact hfit)
  clear hfit
  go_upto_region 8 with fail
  go_quiet (fail)
  go_upto_region 11 with fail
  refine wp_world' (Φ := fun V => V.cell? ⟨g0, 0, none⟩ = some (.slice A2 n2 c2) ∧ V.cell? ⟨g0, 1, none⟩ = some (.slice B m d) ∧ V.cell? ⟨g0, 2, none⟩ = some (.int .i64 r) ∧ V.cell? ⟨bl, 1, none⟩ = some (.slice B2 m2 d2) ∧
   V.cell? ⟨g1, 0, none⟩ = some (.slice none 0 0) ∧ V.cell? ⟨g1, 1, none⟩ = some (.slice none 0 0) ∧ V.cell? ⟨g1, 2, none⟩ = some (.int .i64 0) ∧ V.frozen? ⟨g1, 0, none⟩ = false ∧ V.frozen? ⟨g1, 1, none⟩ = false ∧ V.frozen? ⟨g1, 2, none⟩ = false ∧
   (∀ g, g ≠ g0 → V.heap[g]? = Z.heap[g]?) ∧ Below w.heap.size w V ∧ g1 < V.heap.size) ⟨(by first | (simp [*]; done) | (go_simp; done) | (go_simp; simp [*]; done)), (by first | (simp [*]; done) | (go_simp; done) | (go_simp; simp [*]; done)), (by first | (simp [*]; done) | (go_simp; done) | (go_simp; simp [*]; done)), (by first | (simp [*]; done) | (go_simp; done) | (go_simp; simp [*]; done)), (by first | (simp [*]; done) | (go_simp; done) | (go_simp; simp [*]; done)), (by first | (simp [*]; done) | (go_simp; done) | (go_simp; simp [*]; done)), (by first | (simp [*]; done) | (go_simp; done) | (go_simp; simp [*]; done)), (by first | (simp [*]; done) | (go_simp; done) | (go_simp; simp [*]; done)), (by first | (simp [*]; done) | (go_simp; done) | (go_simp; simp [*]; done)), (by first | (simp [*]; done) | (go_simp; done) | (go_simp; simp [*]; done)), fun g hg => set_other hg _, (below_drewN Hbw.out _).setCell hg0w _, by simpa using vl⟩ ?_
  rintro V ⟨s0, s1, s2, s3, t0, t1, t2, f0, f1, f2, hVo, hVb, hV1⟩
  have HVo := Lib.hid hVo
  have HVb := Lib.hid hVb
  clear hVo hVb u0 u1 u2 ul v0 v1 v2 vl uf0 vf0 vf1 vf2 r0 r1 rl
  refine wp_region_held_drew (S := fun w' => w'.cell? ⟨g0, 0, none⟩ = some (.slice A2 n2 c2) ∧ w'.cell? ⟨g0, 1, none⟩ = some (.slice B m d) ∧ w'.cell? ⟨g0, 2, none⟩ = some (.int .i64 r) ∧ w'.cell? ⟨bl, 1, none⟩ = some (.slice B2 m2 d2)) (by kernel_rfl) ?gs ?gr
  case gs => simp [*]
  case gr =>
   intro hHeld
   have hbV : Below w.heap.size w V.drew := HVb.out.drew
   have hoV : ∀ g, g ≠ g0 → V.drew.heap[g]? = Z.heap[g]? := HVo.out
   have t0' : V.drew.cell? ⟨g1, 0, none⟩ = some (.slice none 0 0) := t0
   have t1' : V.drew.cell? ⟨g1, 1, none⟩ = some (.slice none 0 0) := t1
   have t2' : V.drew.cell? ⟨g1, 2, none⟩ = some (.int .i64 0) := t2
   have f0' : V.drew.frozen? ⟨g1, 0, none⟩ = false := f0
   have f1' : V.drew.frozen? ⟨g1, 1, none⟩ = false := f1
   have f2' : V.drew.frozen? ⟨g1, 2, none⟩ = false := f2
   have hV1' : g1 < V.drew.heap.size := hV1
   have HbV := Lib.hid hbV
   have HoV := Lib.hid hoV
   clear hbV hoV t0 t1 t2 f0 f1 f2 hV1 s0 s1 s2 s3 HVo HVb
   generalize V.drew = U at *
   refine stepH 0 hHeld ?_
   refine stepH 1 hHeld ?_
   refine stepH 2 hHeld ?_
   refine stepH 3 hHeld ?_
   refine stepH 4 hHeld ?_
   refine stepH 5 hHeld ?_
   refine oneH 6 (fun K hK => ?_)
   go_simp
   have hHeld8 : (fun w' : World => w'.cell? ⟨g0, 0, none⟩ = some (.slice A2 n2 c2) ∧ w'.cell? ⟨g0, 1, none⟩ = some (.slice B m d) ∧ w'.cell? ⟨g0, 2, none⟩ = some (.int .i64 r) ∧ w'.cell? ⟨bl, 1, none⟩ = some (.slice B2 m2 d2)) (((U.setCell ⟨g1, 0, none⟩ (.slice A2 n2 c2)).setCell ⟨g1, 1, none⟩ (.slice B m d)).setCell ⟨g1, 2, none⟩ (.int .i64 r)) := ⟨(by first | (simp [*]; done) | (go_simp; done) | (go_simp; simp [*]; done)), (by first | (simp [*]; done) | (go_simp; done) | (go_simp; simp [*]; done)), (by first | (simp [*]; done) | (go_simp; done) | (go_simp; simp [*]; done)), (by first | (simp [*]; done) | (go_simp; done) | (go_simp; simp [*]; done))⟩
   refine hK _ _ hHeld8 ?_
   clear hK K hHeld
   have hHeld := hHeld8
   clear hHeld8
   try simp only [Act.put, sA, sZ, sS]
   refine stepH 7 hHeld ?_
   refine stepH 8 hHeld ?_
   refine stepH 9 hHeld ?_
   refine wpAnyH_done (by kernel_rfl) ?_ _
   have hbF : Below w.heap.size w (((U.setCell ⟨g1, 0, none⟩ (.slice A2 n2 c2)).setCell ⟨g1, 1, none⟩ (.slice B m d)).setCell ⟨g1, 2, none⟩ (.int .i64 r)) := ((HbV.out.setCell hg1w _).setCell hg1w _).setCell hg1w _
   have hoF : ∀ g, g ≠ g0 → g ≠ g1 → (((U.setCell ⟨g1, 0, none⟩ (.slice A2 n2 c2)).setCell ⟨g1, 1, none⟩ (.slice B m d)).setCell ⟨g1, 2, none⟩ (.int .i64 r)).heap[g]? = Z.heap[g]? := fun g h1 h2 => (set_other h2 _).trans ((set_other h2 _).trans ((set_other h2 _).trans (HoV.out g h1)))
   have hcF := own0_at P3.out (fun hc a ha => hoF _ (Nc0.out hc a ha) (Nc1.out hc a ha))
   have hiF := own0_at P4.out (fun hc a ha => hoF _ (Ni0.out hc a ha) (Ni1.out hc a ha))
   have HIC := Lib.hid (Ly.isC hcF Wfc.out)
   have HII := Lib.hid (Ly.isI hiF Wfi.out)
   have HFr := Lib.hid (fun (h0 : m2 ≠ 0) a ha => Nat.le_trans hwB (own0_low hiF h0 a ha))
   have HbF := Lib.hid hbF
   have w0 : (((U.setCell ⟨g1, 0, none⟩ (.slice A2 n2 c2)).setCell ⟨g1, 1, none⟩ (.slice B m d)).setCell ⟨g1, 2, none⟩ (.int .i64 r)).cell? ⟨g1, 0, none⟩ = some (.slice A2 n2 c2) := (by first | (simp [*]; done) | (go_simp; done) | (go_simp; simp [*]; done))
   have w1 : (((U.setCell ⟨g1, 0, none⟩ (.slice A2 n2 c2)).setCell ⟨g1, 1, none⟩ (.slice B m d)).setCell ⟨g1, 2, none⟩ (.int .i64 r)).cell? ⟨g1, 1, none⟩ = some (.slice B m d) := (by first | (simp [*]; done) | (go_simp; done) | (go_simp; simp [*]; done))
   have w2 : (((U.setCell ⟨g1, 0, none⟩ (.slice A2 n2 c2)).setCell ⟨g1, 1, none⟩ (.slice B m d)).setCell ⟨g1, 2, none⟩ (.int .i64 r)).cell? ⟨g1, 2, none⟩ = some (.int .i64 r) := (by first | (simp [*]; done) | (go_simp; done) | (go_simp; simp [*]; done))
   clear hbF hoF hcF hiF hHeld
   generalize (((U.setCell ⟨g1, 0, none⟩ (.slice A2 n2 c2)).setCell ⟨g1, 1, none⟩ (.slice B m d)).setCell ⟨g1, 2, none⟩ (.int .i64 r)) = F at *
   go_wp2
   refine bodyPost_ret (v := .tuple #[.agg #[.slice A2 n2 c2, .slice B m d, .int .i64 r], .int .i64 (n : Int), .slice B2 m2 d2, .int .i64 0]) (by simp [results, Tryd.results40, go_sem, *]) rfl ?_
   unfold RetPut
   rw [HPL.out]
   rw [if_pos (show ((L.length : Nat) : Int) ≤ r from Hfit.out)]
   exact ⟨A2, n2, c2, B2, m2, d2, by rw [hnl], HIC.out, HII.out, HbF.out, HFr.out⟩
 ·have hd : decide (r < (n2 : Int)) = true := by simp; omega
  have Hfit : Hid (¬ ((L.length : Nat) : Int) ≤ r) := Lib.hid (by rw [HlenL.out]; exact hfit)
  clear hfit
  go_upto_region 8 with fail
  go_quiet (fail)
  go_wp2
  refine bodyPost_ret (v := .tuple #[.agg #[.slice A n c, .slice B m d, .int .i64 r], .int .i64 0, .slice none 0 0, .int .i64 80]) (by simp [results, Tryd.results40, go_sem, *]) rfl ?_
  unfold RetPut
  rw [HPL.out]
  rw [if_neg (by have h9 := Hfit.out; show ¬ ((L.length : Nat) : Int) ≤ r; omega)]
  exact ⟨rfl, ((((below_drewN Hbw.out _).setCell hg1w _).setCell hg1w _).setCell hg1w _)⟩
end Go.Proofs.YtgipiplklaeplaaDoor
