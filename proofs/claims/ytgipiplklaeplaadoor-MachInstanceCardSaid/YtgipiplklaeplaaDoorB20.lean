/- Texts of this proof that belong together: words of memory, plain laws, walks. -/
import Derived.WalkMore
import Derived.Test.YtgipiplklaeplaaDoorB07
import Derived.Test.YtgipiplklaeplaaDoorB09
import Derived.Test.YtgipiplklaeplaaDoorB11
import Derived.Test.YtgipiplklaeplaaDoorB14
import Derived.Test.YtgipiplklaeplaaDoorB18
import Derived.Test.YtgipiplklaeplaaDoorB19
set_option linter.unusedVariables false
set_option linter.unusedSimpArgs false
namespace Go.Proofs.YtgipiplklaeplaaDoor
open Go.RowKit
set_option maxRecDepth 100000 in
set_option maxHeartbeats 8000000 in
theorem hPut_b (v : Nat) (A B D At : Option Addr) (n c m d p e k kc : Nat) (r : Int) (l : List C) (a : List Int) (w : World) (h : IsC w A n c l) (ht : IsC w At k kc (Tm.v v).flat) (hD : IsI w D p e a)
  (hT : (Tm.v v).ok = true) (hn : n ≤ 50000) (hp : p ≤ 50000) (hpos : 0 ≤ atA a v) :
  Calls Tryd.prog 40 #[.agg #[.slice A n c, .slice B m d, .int .i64 r], .slice At k kc, .slice D p e] w (RetPut w A B n c m d r (putA l (.v v) a)) := by
 have hnl := h.len
 have hpl := hD.len
 generalize hPR : putA l (.v v) a = PR
 have HPR := Lib.hid hPR
 clear hPR
 obtain ⟨b0, off0, rfl, hb00, e0, e1, e2, hn0⟩ := ht.tm0
 have hn0' : (0 : Int) < (k : Int) := by omega
 simp only [Tm.c0] at e0 e1 e2
 have HC := Lib.hid h
 have HD := Lib.hid hD
 have HT := Lib.hid ht
 clear h hD ht
 have hcs := fun wz (hb : Below w.heap.size w wz) => cloneS_any A n c l wz (HC.out.below hb) (by omega)
 have hci := fun wz (hb : Below w.heap.size w wz) => cloneI_any D p e a wz (HD.out.below hb) (by omega)
 have Hcs := Lib.hid hcs
 have Hci := Lib.hid hci
 clear hcs hci
 go_enter Tryd.func40, Tryd.ntmps40
 go_upto_region 1 with fail
 refine wp_world' (Φ := fun X => Below w.heap.size w X ∧ X.heap.size = w.heap.size + 2 ∧ X.heap[w.heap.size]? = some (.cells #[.slice A n c, .slice B m d, .int .i64 r] 44 (0, 0)) ∧ X.heap[w.heap.size + 1]? = some (.cells #[.slice none 0 0, .slice none 0 0, .int .i64 0] 44 (0, 0)))
  ⟨((Below.refl _ _).alloc (Nat.le_refl _) _).alloc (by first | omega | (simp; done) | (simp; omega)) _, (by first | omega | (simp; done) | (simp; omega)), (alloc_past (by first | omega | (simp; done) | (simp; omega))).trans (alloc_at rfl), alloc_at (by first | omega | (simp; done) | (simp; omega))⟩ ?_
 rintro X ⟨hbX, hX1, x0, x1⟩
 obtain ⟨g0, hg0⟩ : ∃ g0, g0 = w.heap.size := ⟨_, rfl⟩
 obtain ⟨g1, hg1⟩ : ∃ g1, g1 = w.heap.size + 1 := ⟨_, rfl⟩
 rw [← hg1] at x1 ⊢
 rw [← hg0] at x0 ⊢
 have HbX := Lib.hid hbX
 have hg0b : g0 < X.heap.size := by omega
 have hg1b : g1 < X.heap.size := by omega
 have hg0w' : w.heap.size ≤ g0 := by omega
 have hg1w' : w.heap.size ≤ g1 := by omega
 have hg01' : ¬ g0 = g1 := by omega
 have hwB : w.heap.size ≤ X.heap.size := by omega
 obtain ⟨y0, y1, y2, yl⟩ := open3 x0
 clear hX1 hg0 hg1 hbX
 go_upto_region 2 with (first
  | (go_at_call 56; go_must (refine (Hcs.out _ HbX.out).mono ?_); rintro e w1 ⟨A1, c1, rfl, ho1, hb1⟩; have hx1 := (hb1.block g0 hg0b).trans x0)
  | (go_at_call 57; go_must (refine (Hci.out _ (HbX.out.trans (hb1.mono hwB))).mono ?_); rintro e w2 ⟨D1, d1, rfl, ho2, hb2⟩))
 obtain ⟨bl, hbl⟩ : ∃ bl, bl = w2.heap.size := ⟨_, rfl⟩
 have hs1 := hb1.size
 have hs2 := hb2.size
 rw [← hbl]
 refine wp_world' (Φ := fun Y => Below X.heap.size X Y ∧ Ly Y X.heap.size bl 136 l a ∧ Y.cell? ⟨bl, 0, none⟩ = some (.slice A1 n c1)) ⟨?_, ⟨⟨A1, n, c1, D1, p, d1, by omega, alloc_at hbl.symm, .inr ?_, .inr ?_⟩, HC.out.wf, HD.out.wf⟩, cells_of (alloc_at hbl.symm) 0⟩ ?_
 ·exact (hb1.trans (hb2.mono hs1)).alloc (by omega) _
 ·exact ((own_below ho1 hb2).alloc _)
 ·exact (own_lower ho2 hs1).alloc _
 rintro Y ⟨hbY, hLY, q0⟩
 have hbl2 : X.heap.size ≤ bl := by omega
 have hYb := (hbY.block g0 hg0b).trans x0
 have hbYw := HbX.out.trans (hbY.mono hwB)
 have e0' := (hbYw.cell (p := ⟨b0, off0, none⟩) hb00).trans e0
 have hb0Y : b0 < Y.heap.size := Nat.lt_of_lt_of_le hb00 hbYw.size
 have hYX : X.heap.size ≤ Y.heap.size := hbY.size
 have hlY := hLY.lt.2
 clear ho1 ho2 hb1 hb2 hx1 hs1 hs2 hbl e0
 have hv9 : v ≤ 999 := by simp [Tm.ok] at hT; omega
 have e2' := (hbYw.cell (p := ⟨b0, off0 + 2, none⟩) hb00).trans e2
 have hst := lstands_any X.heap.size bl l a v Y hLY hv9 hYX (by omega)
 have hd0 : decide (0 ≤ atA a v) = true := by simp; omega
 have hd1 : (atA a v ≥ 0) := by omega
 have Hst := Lib.hid hst
 have HbY := Lib.hid hbY
 have HbYw := Lib.hid hbYw
 have hpt : Hid (((atA a v).toNat : Int) = atA a v) := Lib.hid (by omega)
 have hnn : Hid (¬ atA a v < 0) := Lib.hid (by omega)
 have hlv := extA_len_le a v
 have hlv2 : (extA a v).length ≤ 100000 := by omega
 have haw : i64 (atA a v) := by
  unfold atA
  cases hav : a[v]? with
  | none => exact ⟨by decide, by decide⟩
  | some y => exact HD.out.wf y (List.mem_of_getElem? hav)
 have Haw := Lib.hid haw
 clear hst hbY hLY hYb hbYw hpos hlv haw
 go_upto_region 7 with (first
  | (go_at_call 77; go_must (refine Hst.out.mono ?_); rintro e w3 ⟨rfl, hL3, hb3, hk3⟩))
 obtain ⟨A4, n4, c4, B4, m4, d4, k1, k2, k3, k4⟩ := hL3.has
 have hm4 := own0_len k4
 simp at hm4
 have hvlt := extA_len a v
 obtain ⟨s0, s1, sl⟩ := open2 k2
 have hslB := k4.sl (by omega)
 obtain ⟨bb, ob, hBe, hbb, hcc⟩ := hslB.cells (by omega)
 have hgx : ((extA a v).map (Value.int .i64))[v]? = some (.int .i64 (atA a v)) := by rw [List.getElem?_map, extA_get]; rfl
 have hcv := hcc v _ hgx
 have hcapB := hslB.hcap
 have hmaxB := hslB.hmax
 unfold maxLen at hmaxB
 subst hBe
 have hv4 : v < m4 := by omega
 have hb03 : b0 < w3.heap.size := Nat.lt_of_lt_of_le hb0Y hb3.size
 have e23 := (hb3.cell (p := ⟨b0, off0 + 2, none⟩) (show b0 < X.heap.size by omega)).trans e2'
 have hLz := hL3
 have hbz := HbY.out.trans hb3
 have HLz := Lib.hid hLz
 have Hbz := Lib.hid hbz
 clear k2 k3 k4 hm4 hslB hcc hgx hvlt hLz hbz hL3 hk3
 go_quiet (fail)
 clear s0 s1 sl hcv hcapB hmaxB e23 hv4 hb03
 have hZ : Below w3.heap.size w3 (w3.drewN nq) := below_drewN (Below.refl _ _) _
 have hLz := HLz.out.below hZ
 have hbz := Hbz.out.trans (hZ.mono (Nat.le_trans hYX hb3.size))
 clear HLz Hbz hZ hbb
 generalize w3.drewN nq = Z at *
 have hputA : putA l (.v v) a = (l, (atA a v).toNat, extA a v) := by
  simp only [putA, Int.toNat_natCast, if_neg (show ¬ atA a v < 0 by have h9 := hnn.out; omega)]
 have hLlen : l.length ≤ 100000 := by omega
 have HPL : Hid (PR = (l, (atA a v).toNat, extA a v)) := Lib.hid (HPR.out.symm.trans hputA)
 clear Hst HPR hputA e0' hb0Y q0 hlY e2' hb3
 obtain ⟨L, hL⟩ : ∃ L, L = l := ⟨_, rfl⟩
 have hLl : Hid (l = L) := Lib.hid hL.symm
 rw [← hL] at hLz hLlen HPL
 clear hL
 obtain ⟨A2, n2, c2, B2, m2, d2, p1, p2, p3, p4⟩ := hLz.has
 have hlz := own0_len p3
 rw [flatC_len] at hlz
 have HlenL : Hid (L.length = n2) := Lib.hid (by omega)
 have hn2 : n2 ≤ 100000 := by omega
 obtain ⟨r0, r1, rl⟩ := open2 p2
 have z0 := (hbz.block g0 hg0b).trans x0
 have z1 := (hbz.block g1 hg1b).trans x1
 obtain ⟨u0, u1, u2, ul⟩ := open3 z0
 obtain ⟨v0, v1, v2, vl⟩ := open3 z1
 have P3 := Lib.hid p3
 have P4 := Lib.hid p4
 have Wfc := Lib.hid hLz.wfc
 have Wfi := Lib.hid hLz.wfi
 have Nc0 := Lib.hid (own0_ne p3 z0 (by intro cur he; simp at he))
 have Nc1 := Lib.hid (own0_ne p3 z1 (by intro cur he; simp at he))
 have Ni0 := Lib.hid (own0_ne p4 z0 (by intro cur he; simp at he))
 have Ni1 := Lib.hid (own0_ne p4 z1 (by intro cur he; simp at he))
 have Hbw := Lib.hid (HbX.out.trans (hbz.mono hwB))
 have hwZ := Hbw.out.size
 have uf0 := frozen_of z0 0
 have vf0 := frozen_of z1 0
 have vf1 := frozen_of z1 1
 have vf2 := frozen_of z1 2
 have hg0w : w.heap.size ≤ g0 := hg0w'
 have hg1w : w.heap.size ≤ g1 := hg1w'
 have hg01 : ¬ g0 = g1 := hg01'
 have hg0l : ¬ g0 = bl := by omega
 have hg1l : ¬ g1 = bl := by omega
 clear hlz p2 p3 p4 x0 x1 z0 z1 hbz hLz
 by_cases hfit : (n2 : Int) ≤ r
 ·have hd : decide (r < (n2 : Int)) = false := by simp; omega
  have Hfit : Hid (((L.length : Nat) : Int) ≤ r) := Lib.hid (by rw [HlenL.out]; exact hfit)
  clear hfit
  go_upto_region 8 with fail
  go_quiet (fail)
  go_upto_region 11 with fail
  refine wp_world' (Φ := fun V => V.cell? ⟨g0, 0, none⟩ = some (.slice A2 n2 c2) ∧ V.cell? ⟨g0, 1, none⟩ = some (.slice B m d) ∧ V.cell? ⟨g0, 2, none⟩ = some (.int .i64 r) ∧ V.cell? ⟨bl, 1, none⟩ = some (.slice B2 m2 d2) ∧
   V.cell? ⟨g1, 0, none⟩ = some (.slice none 0 0) ∧ V.cell? ⟨g1, 1, none⟩ = some (.slice none 0 0) ∧ V.cell? ⟨g1, 2, none⟩ = some (.int .i64 0) ∧ V.frozen? ⟨g1, 0, none⟩ = false ∧ V.frozen? ⟨g1, 1, none⟩ = false ∧ V.frozen? ⟨g1, 2, none⟩ = false ∧
   (∀ g, g ≠ g0 → V.heap[g]? = Z.heap[g]?) ∧ Below w.heap.size w V ∧ g1 < V.heap.size) ⟨(by first | (simp [*]; done) | (go_simp; done) | (go_simp; simp [*]; done)), (by first | (simp [*]; done) | (go_simp; done) | (go_simp; simp [*]; done)), (by first | (simp [*]; done) | (go_simp; done) | (go_simp; simp [*]; done)), (by first | (simp [*]; done) | (go_simp; done) | (go_simp; simp [*]; done)), (by first | (simp [*]; done) | (go_simp; done) | (go_simp; simp [*]; done)), (by first | (simp [*]; done) | (go_simp; done) | (go_simp; simp [*]; done)), (by first | (simp [*]; done) | (go_simp; done) | (go_simp; simp [*]; done)), (by first | (simp [*]; done) | (go_simp; done) | (go_simp; simp [*]; done)), (by first | (simp [*]; done) | (go_simp; done) | (go_simp; simp [*]; done)), (by first | (simp [*]; done) | (go_simp; done) | (go_simp; simp [*]; done)), fun g hg => set_other hg _, (below_drewN Hbw.out _).setCell hg0w _, by simpa using vl⟩ ?_
  rintro V ⟨s0, s1, s2, s3, t0, t1, t2, f0, f1, f2, hVo, hVb, hV1⟩
  have HVo := Lib.hid hVo
  have HVb := Lib.hid hVb
  clear hVo hVb u0 u1 u2 ul v0 v1 v2 vl uf0 vf0 vf1 vf2 r0 r1 rl
  refine wp_region_held_drew (S := fun w' => w'.cell? ⟨g0, 0, none⟩ = some (.slice A2 n2 c2) ∧ w'.cell? ⟨g0, 1, none⟩ = some (.slice B m d) ∧ w'.cell? ⟨g0, 2, none⟩ = some (.int .i64 r) ∧ w'.cell? ⟨bl, 1, none⟩ = some (.slice B2 m2 d2)) (by kernel_rfl) ?gs ?gr
  case gs => simp [*]
  case gr =>
   intro hHeld
   have hbV : Below w.heap.size w V.drew := HVb.out.drew
   have hoV : ∀ g, g ≠ g0 → V.drew.heap[g]? = Z.heap[g]? := HVo.out
   have t0' : V.drew.cell? ⟨g1, 0, none⟩ = some (.slice none 0 0) := t0
   have t1' : V.drew.cell? ⟨g1, 1, none⟩ = some (.slice none 0 0) := t1
   have t2' : V.drew.cell? ⟨g1, 2, none⟩ = some (.int .i64 0) := t2
   have f0' : V.drew.frozen? ⟨g1, 0, none⟩ = false := f0
   have f1' : V.drew.frozen? ⟨g1, 1, none⟩ = false := f1
   have f2' : V.drew.frozen? ⟨g1, 2, none⟩ = false := f2
   have hV1' : g1 < V.drew.heap.size := hV1
   have HbV := Lib.hid hbV
   have HoV := Lib.hid hoV
   clear hbV hoV t0 t1 t2 f0 f1 f2 hV1 s0 s1 s2 s3 HVo HVb
   generalize V.drew = U at *
   refine stepH 0 hHeld ?_
   refine stepH 1 hHeld ?_
   refine stepH 2 hHeld ?_
   refine stepH 3 hHeld ?_
   refine stepH 4 hHeld ?_
   refine stepH 5 hHeld ?_
   refine oneH 6 (fun K hK => ?_)
   go_simp
   have hHeld8 : (fun w' : World => w'.cell? ⟨g0, 0, none⟩ = some (.slice A2 n2 c2) ∧ w'.cell? ⟨g0, 1, none⟩ = some (.slice B m d) ∧ w'.cell? ⟨g0, 2, none⟩ = some (.int .i64 r) ∧ w'.cell? ⟨bl, 1, none⟩ = some (.slice B2 m2 d2)) (((U.setCell ⟨g1, 0, none⟩ (.slice A2 n2 c2)).setCell ⟨g1, 1, none⟩ (.slice B m d)).setCell ⟨g1, 2, none⟩ (.int .i64 r)) := ⟨(by first | (simp [*]; done) | (go_simp; done) | (go_simp; simp [*]; done)), (by first | (simp [*]; done) | (go_simp; done) | (go_simp; simp [*]; done)), (by first | (simp [*]; done) | (go_simp; done) | (go_simp; simp [*]; done)), (by first | (simp [*]; done) | (go_simp; done) | (go_simp; simp [*]; done))⟩
   refine hK _ _ hHeld8 ?_
   clear hK K hHeld
   have hHeld := hHeld8
   clear hHeld8
   try simp only [Act.put, sA, sZ, sS]
   refine stepH 7 hHeld ?_
   refine stepH 8 hHeld ?_
   refine stepH 9 hHeld ?_
   refine wpAnyH_done (by kernel_rfl) ?_ _
   have hbF : Below w.heap.size w (((U.setCell ⟨g1, 0, none⟩ (.slice A2 n2 c2)).setCell ⟨g1, 1, none⟩ (.slice B m d)).setCell ⟨g1, 2, none⟩ (.int .i64 r)) := ((HbV.out.setCell hg1w _).setCell hg1w _).setCell hg1w _
   have hoF : ∀ g, g ≠ g0 → g ≠ g1 → (((U.setCell ⟨g1, 0, none⟩ (.slice A2 n2 c2)).setCell ⟨g1, 1, none⟩ (.slice B m d)).setCell ⟨g1, 2, none⟩ (.int .i64 r)).heap[g]? = Z.heap[g]? := fun g h1 h2 => (set_other h2 _).trans ((set_other h2 _).trans ((set_other h2 _).trans (HoV.out g h1)))
   have hcF := own0_at P3.out (fun hc a ha => hoF _ (Nc0.out hc a ha) (Nc1.out hc a ha))
   have hiF := own0_at P4.out (fun hc a ha => hoF _ (Ni0.out hc a ha) (Ni1.out hc a ha))
   have HIC := Lib.hid (Ly.isC hcF Wfc.out)
   have HII := Lib.hid (Ly.isI hiF Wfi.out)
   have HFr := Lib.hid (fun (h0 : m2 ≠ 0) a ha => Nat.le_trans hwB (own0_low hiF h0 a ha))
   have HbF := Lib.hid hbF
   have w0 : (((U.setCell ⟨g1, 0, none⟩ (.slice A2 n2 c2)).setCell ⟨g1, 1, none⟩ (.slice B m d)).setCell ⟨g1, 2, none⟩ (.int .i64 r)).cell? ⟨g1, 0, none⟩ = some (.slice A2 n2 c2) := (by first | (simp [*]; done) | (go_simp; done) | (go_simp; simp [*]; done))
   have w1 : (((U.setCell ⟨g1, 0, none⟩ (.slice A2 n2 c2)).setCell ⟨g1, 1, none⟩ (.slice B m d)).setCell ⟨g1, 2, none⟩ (.int .i64 r)).cell? ⟨g1, 1, none⟩ = some (.slice B m d) := (by first | (simp [*]; done) | (go_simp; done) | (go_simp; simp [*]; done))
   have w2 : (((U.setCell ⟨g1, 0, none⟩ (.slice A2 n2 c2)).setCell ⟨g1, 1, none⟩ (.slice B m d)).setCell ⟨g1, 2, none⟩ (.int .i64 r)).cell? ⟨g1, 2, none⟩ = some (.int .i64 r) := (by first | (simp [*]; done) | (go_simp; done) | (go_simp; simp [*]; done))
   clear hbF hoF hcF hiF hHeld
   generalize (((U.setCell ⟨g1, 0, none⟩ (.slice A2 n2 c2)).setCell ⟨g1, 1, none⟩ (.slice B m d)).setCell ⟨g1, 2, none⟩ (.int .i64 r)) = F at *
   go_wp2
   refine bodyPost_ret (v := .tuple #[.agg #[.slice A2 n2 c2, .slice B m d, .int .i64 r], .int .i64 (atA a v), .slice B2 m2 d2, .int .i64 0]) (by simp [results, Tryd.results40, go_sem, *]) rfl ?_
   unfold RetPut
   rw [HPL.out]
   rw [if_pos (show ((L.length : Nat) : Int) ≤ r from Hfit.out)]
   exact ⟨A2, n2, c2, B2, m2, d2, by rw [hpt.out], HIC.out, HII.out, HbF.out, HFr.out⟩
 ·have hd : decide (r < (n2 : Int)) = true := by simp; omega
  have Hfit : Hid (¬ ((L.length : Nat) : Int) ≤ r) := Lib.hid (by rw [HlenL.out]; exact hfit)
  clear hfit
  go_upto_region 8 with fail
  go_quiet (fail)
  go_wp2
  refine bodyPost_ret (v := .tuple #[.agg #[.slice A n c, .slice B m d, .int .i64 r], .int .i64 0, .slice none 0 0, .int .i64 80]) (by simp [results, Tryd.results40, go_sem, *]) rfl ?_
  unfold RetPut
  rw [HPL.out]
  rw [if_neg (by have h9 := Hfit.out; show ¬ ((L.length : Nat) : Int) ≤ r; omega)]
  exact ⟨rfl, ((((below_drewN Hbw.out _).setCell hg1w _).setCell hg1w _).setCell hg1w _)⟩
end Go.Proofs.YtgipiplklaeplaaDoor
namespace Go.Proofs.YtgipiplklaeplaaDoor
open Go.RowKit
def uniZ (l : List C) (tr : List Int) (x y : Int) : Option (List C × List Int) := if (0 ≤ x ∧ x < (l.length : Int)) ∧ (0 ≤ y ∧ y < (l.length : Int)) then uniF l tr x.toNat y.toNat else none
set_option maxRecDepth 100000 in
set_option maxHeartbeats 2000000 in
theorem hUnify_out (A B : Option Addr) (n c m d : Nat) (r x y : Int) (w : World) (hn : n ≤ 5000) (hxy : ¬ ((0 ≤ x ∧ x < (n : Int)) ∧ (0 ≤ y ∧ y < (n : Int)))) :
  Calls Tryd.prog 169 #[.agg #[.slice A n c, .slice B m d, .int .i64 r], .int .i64 x, .int .i64 y] w (RetUni w A B n c m d r none) := by
 have hwa := fun wz => hwithin_any A B n c m d r x wz (by omega)
 have hwb := fun wz => hwithin_any A B n c m d r y wz (by omega)
 have Hwa := Lib.hid hwa
 have Hwb := Lib.hid hwb
 clear hwa hwb
 go_enter Tryd.func169, Tryd.ntmps169
 have hal : Below w.heap.size w ((w.alloc (.cells #[.slice A n c, .slice B m d, .int .i64 r] 44)).alloc (.cells #[.slice none 0 0, .slice none 0 0, .int .i64 0] 44)) := ((Below.refl _ _).alloc (Nat.le_refl _) _).alloc (by first | omega | (simp; done) | (simp; omega)) _
 have hal2 : ((w.alloc (.cells #[.slice A n c, .slice B m d, .int .i64 r] 44)).alloc (.cells #[.slice none 0 0, .slice none 0 0, .int .i64 0] 44)).heap.size = w.heap.size + 2 := by simp
 have x00 : ((w.alloc (.cells #[.slice A n c, .slice B m d, .int .i64 r] 44)).alloc (.cells #[.slice none 0 0, .slice none 0 0, .int .i64 0] 44)).heap[w.heap.size]? = some (.cells #[.slice A n c, .slice B m d, .int .i64 r] 44 (0, 0)) := (alloc_past (by first | omega | (simp; done) | (simp; omega))).trans (alloc_at rfl)
 have x01 : ((w.alloc (.cells #[.slice A n c, .slice B m d, .int .i64 r] 44)).alloc (.cells #[.slice none 0 0, .slice none 0 0, .int .i64 0] 44)).heap[w.heap.size + 1]? = some (.cells #[.slice none 0 0, .slice none 0 0, .int .i64 0] 44 (0, 0)) := alloc_at (by first | omega | (simp; done) | (simp; omega))
 cases hbx : (decide (0 ≤ x) && decide (x < (n : Int)))
 ·rw [hbx] at Hwa
  go_wp2
  go_step3
  go_upto_region 2 with (first
   | (go_at_call 60; have hfirst := x01; go_must (refine (Hwa.out _).mono ?_); rintro e w2 ⟨rfl, hb1⟩; have x20 := (hb1.block w.heap.size (by omega)).trans x00; have x21 := (hb1.block (w.heap.size + 1) (by omega)).trans x01; have hbw2 := hal.trans (hb1.mono hal.size); have hs1 := hb1.size; clear x01 hb1 hfirst))
  obtain ⟨s0, s1, s2, sl⟩ := open3 x20
  obtain ⟨t0, t1, t2, tl⟩ := open3 x21
  have tf0 := frozen_of x21 0
  have tf1 := frozen_of x21 1
  have tf2 := frozen_of x21 2
  have hkF : Kq (w.heap.size + 1) w2 (((w2.setCell ⟨w.heap.size + 1, 0, none⟩ (.slice A n c)).setCell ⟨w.heap.size + 1, 1, none⟩ (.slice B m d)).setCell ⟨w.heap.size + 1, 2, none⟩ (.int .i64 r)) := ((Kq.set w2 0 _).trans (Kq.set _ 1 _)).trans (Kq.set _ 2 _)
  have HbF := Lib.hid (hbw2.trans (hkF.bel.mono (by omega)))
  have u0 : (((w2.setCell ⟨w.heap.size + 1, 0, none⟩ (.slice A n c)).setCell ⟨w.heap.size + 1, 1, none⟩ (.slice B m d)).setCell ⟨w.heap.size + 1, 2, none⟩ (.int .i64 r)).cell? ⟨w.heap.size + 1, 0, none⟩ = some (.slice A n c) := (by first | (simp [*]; done) | (go_simp; done) | (go_simp; simp [*]; done))
  have u1 : (((w2.setCell ⟨w.heap.size + 1, 0, none⟩ (.slice A n c)).setCell ⟨w.heap.size + 1, 1, none⟩ (.slice B m d)).setCell ⟨w.heap.size + 1, 2, none⟩ (.int .i64 r)).cell? ⟨w.heap.size + 1, 1, none⟩ = some (.slice B m d) := (by first | (simp [*]; done) | (go_simp; done) | (go_simp; simp [*]; done))
  have u2 : (((w2.setCell ⟨w.heap.size + 1, 0, none⟩ (.slice A n c)).setCell ⟨w.heap.size + 1, 1, none⟩ (.slice B m d)).setCell ⟨w.heap.size + 1, 2, none⟩ (.int .i64 r)).cell? ⟨w.heap.size + 1, 2, none⟩ = some (.int .i64 r) := (by first | (simp [*]; done) | (go_simp; done) | (go_simp; simp [*]; done))
  clear hkF
  go_wp2
  generalize (((w2.setCell ⟨w.heap.size + 1, 0, none⟩ (.slice A n c)).setCell ⟨w.heap.size + 1, 1, none⟩ (.slice B m d)).setCell ⟨w.heap.size + 1, 2, none⟩ (.int .i64 r)) = F at *
  try rw [Exit.noGoto_ret]
  refine bodyPost_ret (v := .tuple #[.agg #[.slice A n c, .slice B m d, .int .i64 r], .bool false]) (by simp [results, Tryd.results169, go_sem, *]) rfl ?_
  exact ⟨HbF.out, rfl⟩
 ·have hby : (decide (0 ≤ y) && decide (y < (n : Int))) = false := by
   simp at hbx ⊢
   omega
  rw [hbx] at Hwa
  rw [hby] at Hwb
  go_wp2
  go_step3
  go_upto_region 2 with (first
   | (go_at_call 60; have hfirst := x01; go_must (refine (Hwa.out _).mono ?_); rintro e w1 ⟨rfl, hb1⟩; have x10 := (hb1.block w.heap.size (by omega)).trans x00; have x11 := (hb1.block (w.heap.size + 1) (by omega)).trans x01; have hbw1 := hal.trans (hb1.mono hal.size); have hs1 := hb1.size; obtain ⟨u0, u1, u2, ul⟩ := open3 x10; clear x01 hb1 hfirst)
   | (go_at_call 60; go_must (refine (Hwb.out _).mono ?_); rintro e w2 ⟨rfl, hb2⟩; have x20 := (hb2.block w.heap.size ul).trans x10; have x21 := (hb2.block (w.heap.size + 1) (by omega)).trans x11; have hbw2 := hbw1.trans (hb2.mono hbw1.size)))
  clear u0 u1 u2 ul
  obtain ⟨s0, s1, s2, sl⟩ := open3 x20
  obtain ⟨t0, t1, t2, tl⟩ := open3 x21
  have tf0 := frozen_of x21 0
  have tf1 := frozen_of x21 1
  have tf2 := frozen_of x21 2
  have hkF : Kq (w.heap.size + 1) w2 (((w2.setCell ⟨w.heap.size + 1, 0, none⟩ (.slice A n c)).setCell ⟨w.heap.size + 1, 1, none⟩ (.slice B m d)).setCell ⟨w.heap.size + 1, 2, none⟩ (.int .i64 r)) := ((Kq.set w2 0 _).trans (Kq.set _ 1 _)).trans (Kq.set _ 2 _)
  have HbF := Lib.hid (hbw2.trans (hkF.bel.mono (by omega)))
  have u0 : (((w2.setCell ⟨w.heap.size + 1, 0, none⟩ (.slice A n c)).setCell ⟨w.heap.size + 1, 1, none⟩ (.slice B m d)).setCell ⟨w.heap.size + 1, 2, none⟩ (.int .i64 r)).cell? ⟨w.heap.size + 1, 0, none⟩ = some (.slice A n c) := (by first | (simp [*]; done) | (go_simp; done) | (go_simp; simp [*]; done))
  have u1 : (((w2.setCell ⟨w.heap.size + 1, 0, none⟩ (.slice A n c)).setCell ⟨w.heap.size + 1, 1, none⟩ (.slice B m d)).setCell ⟨w.heap.size + 1, 2, none⟩ (.int .i64 r)).cell? ⟨w.heap.size + 1, 1, none⟩ = some (.slice B m d) := (by first | (simp [*]; done) | (go_simp; done) | (go_simp; simp [*]; done))
  have u2 : (((w2.setCell ⟨w.heap.size + 1, 0, none⟩ (.slice A n c)).setCell ⟨w.heap.size + 1, 1, none⟩ (.slice B m d)).setCell ⟨w.heap.size + 1, 2, none⟩ (.int .i64 r)).cell? ⟨w.heap.size + 1, 2, none⟩ = some (.int .i64 r) := (by first | (simp [*]; done) | (go_simp; done) | (go_simp; simp [*]; done))
  clear hkF
  go_wp2
  generalize (((w2.setCell ⟨w.heap.size + 1, 0, none⟩ (.slice A n c)).setCell ⟨w.heap.size + 1, 1, none⟩ (.slice B m d)).setCell ⟨w.heap.size + 1, 2, none⟩ (.int .i64 r)) = F at *
  try rw [Exit.noGoto_ret]
  refine bodyPost_ret (v := .tuple #[.agg #[.slice A n c, .slice B m d, .int .i64 r], .bool false]) (by simp [results, Tryd.results169, go_sem, *]) rfl ?_
  exact ⟨HbF.out, rfl⟩
theorem hUnify_any (A B : Option Addr) (n c m d : Nat) (r : Int) (l : List C) (tr : List Int) (x y : Int) (w : World) (h : IsC w A n c l) (hT : IsI w B m d tr) (hg : Good l) (ht : TrOk l tr) (hn : n ≤ 5000) (hm : m ≤ 100000) :
  Calls Tryd.prog 169 #[.agg #[.slice A n c, .slice B m d, .int .i64 r], .int .i64 x, .int .i64 y] w (RetUni w A B n c m d r (uniZ l tr x y)) := by
 have hl := h.len
 unfold uniZ
 by_cases hxy : (0 ≤ x ∧ x < (l.length : Int)) ∧ (0 ≤ y ∧ y < (l.length : Int))
 ·rw [if_pos hxy]
  obtain ⟨a, rfl⟩ : ∃ a : Nat, x = a := ⟨x.toNat, by omega⟩
  obtain ⟨b, rfl⟩ : ∃ b : Nat, y = b := ⟨y.toNat, by omega⟩
  exact hUnify_in A B n c m d r l tr a b w h hT hg ht hn hm (by omega) (by omega)
 ·rw [if_neg hxy]
  exact hUnify_out A B n c m d r x y w hn (by rw [← hl]; exact hxy)
theorem hPut_any (T : Tm) (A B D At : Option Addr) (n c m d p e k kc : Nat) (r : Int) (l : List C) (a : List Int) (w : World) (h : IsC w A n c l) (ht : IsC w At k kc T.flat) (hD : IsI w D p e a)
  (hT : T.ok = true) (hTs : T.size ≤ 200) (hn : n ≤ 50000) (hp : p ≤ 50000) :
  Calls Tryd.prog 40 #[.agg #[.slice A n c, .slice B m d, .int .i64 r], .slice At k kc, .slice D p e] w (RetPut w A B n c m d r (putA l T a)) := by
 cases T with
 | f s us => exact hPut_f s us A B D At n c m d p e k kc r l a w h ht hD hT hTs hn hp
 | i x => exact hPut_i x A B D At n c m d p e k kc r l a w h ht hD hT hn hp
 | v x =>
  have hx : 0 ≤ x := by
   simp [Tm.ok] at hT
   omega
  obtain ⟨v, rfl⟩ : ∃ v : Nat, x = v := ⟨x.toNat, by omega⟩
  by_cases hneg : atA a v < 0
  ·exact hPut_v v A B D At n c m d p e k kc r l a w h ht hD hT hn hp hneg
  ·exact hPut_b v A B D At n c m d p e k kc r l a w h ht hD hT hn hp (by omega)
end Go.Proofs.YtgipiplklaeplaaDoor
namespace Go.Proofs.YtgipiplklaeplaaDoor
open Go.RowKit
structure Hst (l : List C) (tr : List Int) (L : List C) (TR : List Int) (d : List Int) : Prop where
 le : l.length ≤ L.length
 tr : TR = tr ++ d
 at_ : ∀ t ∈ d, ∃ p : Nat, t = (p : Int) ∧ p < L.length
 kind : ∀ p, p < l.length → (sAt L p).kind = (sAt l p).kind ∧ (sAt L p).name = (sAt l p).name
 no : ∀ p, p < l.length → (p : Int) ∉ d → (sAt L p).n = (sAt l p).n
 yes : ∀ p, p < l.length → (p : Int) ∈ d → (sAt l p).n = (p : Int)
theorem Hst.refl (l : List C) (tr : List Int) : Hst l tr l tr [] := ⟨Nat.le_refl _, by simp, by simp, fun _ _ => ⟨rfl, rfl⟩, fun _ _ _ => rfl, by simp⟩
theorem Hst.trans {l L M : List C} {tr TR UR d e : List Int} (h : Hst l tr L TR d) (h' : Hst L TR M UR e) : Hst l tr M UR (d ++ e) := by
 refine ⟨Nat.le_trans h.le h'.le, by rw [h'.tr, h.tr, List.append_assoc], ?_, ?_, ?_, ?_⟩
 ·intro t ht
  rcases List.mem_append.1 ht with ht | ht
  ·obtain ⟨p, h1, h2⟩ := h.at_ t ht
   exact ⟨p, h1, Nat.lt_of_lt_of_le h2 h'.le⟩
  ·exact h'.at_ t ht
 ·intro p hp
  have h1 := h.kind p hp
  have h2 := h'.kind p (Nat.lt_of_lt_of_le hp h.le)
  exact ⟨h2.1.trans h1.1, h2.2.trans h1.2⟩
 ·intro p hp hn
  rw [List.mem_append, not_or] at hn
  exact (h'.no p (Nat.lt_of_lt_of_le hp h.le) hn.2).trans (h.no p hp hn.1)
 ·intro p hp hy
  by_cases hd : (p : Int) ∈ d
  ·exact h.yes p hp hd
  ·have he := (List.mem_append.1 hy).resolve_left hd
   rw [← h.no p hp hd]
   exact h'.yes p (Nat.lt_of_lt_of_le hp h.le) he
theorem Hst.pre {l L : List C} (h : Pre l L) (tr : List Int) : Hst l tr L tr [] := ⟨h.le, by simp, by simp, fun p hp => by rw [h.sAt hp]; exact ⟨rfl, rfl⟩, fun p hp _ => by rw [h.sAt hp], by simp⟩
theorem Hst.bnd {l : List C} {tr : List Int} {p q : Nat} (h : Free1 l p) : Hst l tr (bnd l p q) (tr ++ [(p : Int)]) [(p : Int)] := by
 refine ⟨by rw [bnd_len]; exact Nat.le_refl _, rfl, ?_, ?_, ?_, ?_⟩
 ·intro t ht
  simp at ht
  exact ⟨p, ht, by rw [bnd_len]; exact h.lt⟩
 ·intro r hr
  by_cases e : r = p
  ·subst e; rw [bnd_self h.lt]; exact ⟨rfl, rfl⟩
  ·rw [bnd_other e]; exact ⟨rfl, rfl⟩
 ·intro r hr hn
  have e : r ≠ p := by rintro rfl; simp at hn
  rw [bnd_other e]
 ·intro r hr hy
  have e : r = p := by simp at hy; omega
  subst e
  exact h.own
theorem uOne_step {s : US} (h : UOk s) {row : List (Nat × Nat)} {a b : Nat} (hrow : s.row = (a, b) :: row) {s' : US} (hs : uOne s row (fol s.l a) (fol s.l b) = some s') :
  (s'.l = s.l ∧ s'.tr = s.tr) ∨ ∃ p q, Free1 s.l p ∧ q < s.l.length ∧ q ≠ p ∧ ¬ Path s.l q p ∧ s'.l = bnd s.l p q ∧ s'.tr = s.tr ++ [(p : Int)] := by
 obtain ⟨ha, hb⟩ := h.row (a, b) (by rw [hrow]; simp)
 obtain ⟨ex, hx⟩ := h.good.fol_end ha
 obtain ⟨ey, hy⟩ := h.good.fol_end hb
 simp only at ha hb
 generalize fol s.l a = x at *
 generalize fol s.l b = y at *
 unfold uOne at hs
 have free : ∀ z, z < s.l.length → onB s.l z = false → (sAt s.l z).kind = 1 → Free1 s.l z := fun z hz ho k => ⟨hz, k, by rw [on_ref k] at ho; simpa using ho⟩
 by_cases c1 : x = y ∨ (x, y) ∈ s.seen
 ·rw [if_pos c1] at hs
  injection hs with hs
  subst hs
  exact .inl ⟨rfl, rfl⟩
 have hxy : x ≠ y := fun e => c1 (.inl e)
 rw [if_neg c1] at hs
 by_cases c2 : (sAt s.l x).kind = 1 ∧ (sAt s.l y).kind = 1
 ·rw [if_pos c2] at hs
  injection hs with hs
  subst hs
  have fx := free x hx ex c2.1
  have fy := free y hy ey c2.2
  rcases Nat.le_total x y with e | e
  ·exact .inr ⟨y, x, fy, hx, hxy, fun hp => hxy (free_path fx hp).symm, by rw [Nat.max_eq_right e, Nat.min_eq_left e]; rfl, by rw [Nat.max_eq_right e, Nat.min_eq_left e]; rfl⟩
  ·exact .inr ⟨x, y, fx, hy, fun e => hxy e.symm, fun hp => hxy (free_path fy hp), by rw [Nat.max_eq_left e, Nat.min_eq_right e]; rfl, by rw [Nat.max_eq_left e, Nat.min_eq_right e]; rfl⟩
 rw [if_neg c2] at hs
 by_cases c3 : (sAt s.l x).kind = 1
 ·rw [if_pos c3] at hs
  cases hc : rch s.l y x
  ·rw [hc] at hs
   simp at hs
   subst hs
   exact .inr ⟨x, y, free x hx ex c3, hy, fun e => hxy e.symm, (h.good.rch_no hy).1 hc, rfl, rfl⟩
  ·rw [hc] at hs; simp at hs
 rw [if_neg c3] at hs
 by_cases c4 : (sAt s.l y).kind = 1
 ·rw [if_pos c4] at hs
  cases hc : rch s.l x y
  ·rw [hc] at hs
   simp at hs
   subst hs
   exact .inr ⟨y, x, free y hy ey c4, hx, hxy, (h.good.rch_no hx).1 hc, rfl, rfl⟩
  ·rw [hc] at hs; simp at hs
 rw [if_neg c4] at hs
 by_cases c5 : (sAt s.l x).beq (sAt s.l y) = true
 ·rw [if_pos c5] at hs
  injection hs with hs
  subst hs
  exact .inl ⟨rfl, rfl⟩
 ·rw [if_neg c5] at hs; cases hs
theorem uRun_hst : ∀ (k : Nat) (s s' : US), UOk s → uRun k s = some s' → ∃ d, Hst s.l s.tr s'.l s'.tr d
 | 0, s, s', _, hr => by cases hr
 | k + 1, s, s', h, hr => by
  cases hrow : s.row with
  | nil =>
   rw [uRun_zero hrow (by omega)] at hr
   injection hr with hr
   subst hr
   exact ⟨[], Hst.refl _ _⟩
  | cons p row =>
   obtain ⟨a, b⟩ := p
   rw [uRun_step hrow] at hr
   cases ho : uOne s row (fol s.l a) (fol s.l b) with
   | none => rw [ho] at hr; cases hr
   | some s1 =>
    rw [ho] at hr
    obtain ⟨h1, _, h2⟩ := uOne_ok h hrow ho
    obtain ⟨d, hd⟩ := uRun_hst k s1 s' h1 hr
    rcases uOne_step h hrow ho with ⟨e1, e2⟩ | ⟨p, q, hf, _, _, _, e1, e2⟩
    ·rw [e1, e2] at hd
     exact ⟨d, hd⟩
    ·rw [e1, e2] at hd
     exact ⟨_, (Hst.bnd hf).trans hd⟩
def uRes (l : List C) (tr : List Int) (x y : Int) : List C × List Int := (uniZ l tr x y).getD (l, tr)
theorem uni_ok {l : List C} {tr : List Int} {r : Int} (h : OkH ⟨l, tr, r⟩) (x y : Int) : OkH ⟨(uRes l tr x y).1, (uRes l tr x y).2, r⟩ ∧ (uRes l tr x y).1.length = l.length ∧ ∃ d, Hst l tr (uRes l tr x y).1 (uRes l tr x y).2 d := by
 unfold uRes
 cases hu : uniZ l tr x y with
 | none => exact ⟨h, rfl, [], Hst.refl _ _⟩
 | some u =>
  unfold uniZ at hu
  split at hu
  ·rename_i hxy
   unfold uniF at hu
   cases hr : uRun (fuelU l.length) ⟨l, tr, [(x.toNat, y.toNat)], []⟩ with
   | none => rw [hr] at hu; cases hu
   | some s =>
    rw [hr] at hu
    simp at hu
    subst hu
    have h0 := start_ok h.good h.tr (a := x.toNat) (b := y.toNat) (by simp only; omega) (by simp only; omega)
    obtain ⟨h1, _, h2⟩ := uRun_ok _ _ _ h0 hr
    exact ⟨⟨h.room1, h.room2, by have := h.fit; simp only [Option.getD_some] at this ⊢; simp only at h2; omega, h1.good, h1.tr⟩, h2, uRun_hst _ _ _ h0 hr⟩
  ·cases hu
theorem TrOk.pre {l L : List C} {tr : List Int} (h : TrOk l tr) (hp : Pre l L) : TrOk L tr := by
 refine ⟨fun t ht => ?_, h.nd⟩
 obtain ⟨p, rfl, h1, h2, h3⟩ := h.at_ t ht
 exact ⟨p, rfl, by have := hp.le; omega, by rw [hp.sAt h1]; exact h2, by rw [hp.sAt h1]; exact h3⟩
def AtL (n : Nat) (a : List Int) : Prop := ∀ v, atA a v = -1 ∨ ∃ p : Nat, atA a v = (p : Int) ∧ p < n
theorem AtL.ok {l : List C} {a : List Int} (h : AtL l.length a) : AtOk l l.length a := fun v => by
 rcases h v with h | ⟨p, h1, h2⟩
 ·exact .inl h
 ·exact .inr ⟨p, h1, h2, .inl h2⟩
theorem AtOk.atL {l : List C} {n : Nat} {a : List Int} (h : AtOk l n a) : AtL l.length a := fun v => by
 rcases h v with h | ⟨p, h1, h2, _⟩
 ·exact .inl h
 ·exact .inr ⟨p, h1, h2⟩
theorem atL_nil (n : Nat) : AtL n [] := fun v => .inl rfl
theorem put_okH {l : List C} {tr : List Int} {r : Int} (h : OkH ⟨l, tr, r⟩) {T : Tm} (ho : T.ok = true) {a : List Int} (ha : AtL l.length a) (hfit : ((putA l T a).1.length : Int) ≤ r) :
  OkH ⟨(putA l T a).1, tr, r⟩ ∧ Pre l (putA l T a).1 ∧ AtL (putA l T a).1.length (putA l T a).2.2 ∧ (putA l T a).2.1 < (putA l T a).1.length := by
 have hr := h.room2
 simp only at hr
 have hp := put_ok h.good ho ha.ok (by simp only; omega)
 exact ⟨⟨h.room1, h.room2, hfit, hp.good, h.tr.pre hp.pre⟩, hp.pre, hp.at_.atL, hp.lt⟩
end Go.Proofs.YtgipiplklaeplaaDoor
