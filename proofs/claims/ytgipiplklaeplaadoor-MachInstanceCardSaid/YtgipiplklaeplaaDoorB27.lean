/- Texts of this proof that belong together: words of memory, plain laws, walks. -/
import Derived.Test.YtgipiplklaeplaaDoorB04
import Derived.Test.YtgipiplklaeplaaDoorB09
import Derived.Test.YtgipiplklaeplaaDoorB26
set_option linter.unusedVariables false
set_option linter.unusedSimpArgs false
namespace Go.Proofs.YtgipiplklaeplaaDoor
open Go.RowKit Go.Deep
theorem BxK.below {w X Y : World} {base bm : Nat} {m : Mc} {A B R G : Option Addr} {c d e f : Nat} {v0 v1 v2 v3 v4 v5 : Value} (h : BxK w X base bm m A c B d R e G f v0 v1 v2 v3 v4 v5) (hb : Below X.heap.size X Y) : BxK w Y base bm m A c B d R e G f v0 v1 v2 v3 v4 v5 := ⟨h.mx.below hb, h.low.trans (hb.mono h.low.size), (hb.block _ (block_lt h.box)).trans h.box⟩
theorem BxK.other {w X Y : World} {base bm : Nat} {m : Mc} {A B R G : Option Addr} {c d e f g : Nat} {v0 v1 v2 v3 v4 v5 : Value} (h : BxK w X base bm m A c B d R e G f v0 v1 v2 v3 v4 v5) (hg : ∀ k, k ≠ g → Y.heap[k]? = X.heap[k]?) (hw : Below w.heap.size w Y) (n0 : bm ≠ g) (n1 : w.heap.size ≠ g) (na : ∀ y, A = some y → y.block ≠ g) (nb : ∀ y, B = some y → y.block ≠ g) (nr : ∀ y, R = some y → y.block ≠ g) (ng : ∀ y, G = some y → y.block ≠ g) : BxK w Y base bm m A c B d R e G f v0 v1 v2 v3 v4 v5 :=
 ⟨h.mx.keep (hg _ n0) (fun y hy => hg _ (na y hy)) (fun y hy => hg _ (nb y hy)) (fun y hy => hg _ (nr y hy)) (fun y hy => hg _ (ng y hy)), hw, (hg _ n1).trans h.box⟩
set_option maxRecDepth 100000 in
set_option maxHeartbeats 4000000 in
theorem kSetVal_any (base bm : Nat) (m : Mc) (i : In) (x : Nat) (w : World) (h : Mm w base bm m) (hm : McOk m) (hx : i.x = (x : Int)) (hxl : x < m.regs.length) (hnl : m.next < (m.l.length : Int)) (hb0 : base ≤ w.heap.size) :
  Calls Tryd.prog 159 #[.pointer (some ⟨bm, 0, none⟩), i.val] w (RetS w base bm (.ok (m.write (ptrC m.l (m.reg i.x))))) := by
 obtain ⟨A, c, B, d, R, e, G, f, hM⟩ := h
 obtain ⟨hn1, hn2⟩ := hm.nx
 obtain ⟨hl1, hl2⟩ := hm.ok.tr_len11
 have hreg := hm.reg (r := (x : Int)) (by omega) (by omega)
 rcases m with ⟨l, tr, r, regs, next, goals⟩
 simp only at hn1 hn2 hl1 hl2 hnl hxl hreg
 obtain ⟨p, rfl⟩ : ∃ p : Nat, next = (p : Int) := ⟨next.toNat, by omega⟩
 obtain ⟨q, hq⟩ : ∃ q : Nat, (⟨l, tr, r, regs, (p : Int), goals⟩ : Mc).reg x = (q : Int) := ⟨((⟨l, tr, r, regs, (p : Int), goals⟩ : Mc).reg x).toNat, by omega⟩
 have hql : q < l.length := by omega
 have HM := Lib.hid hM
 have hlo := hM.lo
 have hlt := hM.lt
 clear hM
 unfold In.val
 rw [hx]
 simp only
 rw [hq]
 have hn5 : (p : Int) ≤ 5000 := by omega
 have hpl : p < l.length := by omega
 unfold Mc.write ptrC
 simp only [Int.toNat_natCast]
 have Hq := Lib.hid hq
 obtain ⟨kd, hkd⟩ : ∃ kd : Int, kd = if (sAt l q).kind = 4 then 3 else 1 := ⟨_, rfl⟩
 rw [← hkd]
 have Hkd := Lib.hid hkd
 clear hm hq hreg hkd
 go_enter Tryd.func159, Tryd.ntmps159
 go_upto_region 1 with fail
 refine wp_world' (Φ := fun X => BxK w X base bm (⟨l, tr, r, regs, (p : Int), goals⟩ : Mc) A c B d R e G f _ _ _ _ _ _) (BxK.mk' HM.out) ?_
 intro X hBx
 have hne : w.heap.size ≠ bm := by omega
 have hbx := hBx.drew
 obtain ⟨z0, z1, z2, z3, z4, z5, zl⟩ := open6 hbx.box
 obtain ⟨b, off, hR, hb, hc, hcapr, hmaxr⟩ := hbx.mx.regAt (a := x) hxl
 obtain ⟨y0, y1, y2, y3, y4, y5, yl⟩ := open6 hbx.mx.blk
 rw [hR] at y3
 rw [Hq.out] at hc
 simp only at hcapr
 go_cut [5] from 6 to 14 (fun v1 wx => v1 = .pointer (some ⟨X.drew.heap.size, 0, none⟩) ∧ BxK w wx base bm (⟨l, tr, r, regs, (p : Int), goals⟩ : Mc) A c B d R e G f (.int .i64 i.op) (.int .i64 (x : Int)) (.int .i64 i.a) (.string i.name) (.int .i64 i.n) (.bool i.neg) ∧ X.drew.heap.size < wx.heap.size ∧ wx.heap[X.drew.heap.size]? = some (.cells #[.int .i64 1, .string emp, .int .i64 (q : Int)] 90 (0, 0)))
 case first =>
  refine wp_region_held_drew (S := fun w' => w'.cell? ⟨w.heap.size, 1, none⟩ = some (.int .i64 (x : Int)) ∧ w'.cell? ⟨bm, 3, none⟩ = some (.slice (some ⟨b, off, none⟩) regs.length e) ∧ w'.cell? ⟨b, off + x, none⟩ = some (.int .i64 (q : Int))) (by kernel_rfl) ?gs ?gr
  case gs => exact ⟨z1, y3, hc⟩
  case gr =>
   intro hHeld
   have HBx := Lib.hid hbx
   have HS1 := Lib.hid hHeld
   clear hBx hbx z0 z1 z2 z3 z4 z5 zl y0 y1 y2 y3 y4 y5 yl hc hR
   generalize X.drew = V at *
   refine stepH 0 hHeld ?_
   refine stepH 1 hHeld ?_
   refine stepH 2 hHeld ?_
   refine stepH 3 hHeld ?_
   refine stepH 4 hHeld ?_
   refine stepH 5 hHeld ?_
   refine stepH 6 hHeld ?_
   refine stepH 7 hHeld ?_
   refine stepH 8 hHeld ?_
   refine oneH 9 (fun K hK => ?_)
   go_simp
   have hrow := fun (t : TypeId) (n k sz : Nat) (Z : Option Addr) (xs : List Value) (ho : V.ownsRow base t sz (.slice Z n k) n xs) (y : Addr) (hy : Z = some y) => (Own0.lt ho y hy).2
   have na := hrow _ _ _ _ _ _ HBx.out.mx.a
   have nb := hrow _ _ _ _ _ _ HBx.out.mx.b
   have nr := hrow _ _ _ _ _ _ HBx.out.mx.r
   have ng := hrow _ _ _ _ _ _ HBx.out.mx.g
   have hbmV := HBx.out.mx.lt
   have hgV := block_lt HBx.out.box
   have HU := Lib.hid (HBx.out.below (basM V (.cells #[.int .i64 0, .string ⟨#[]⟩, .int .i64 0] 90)))
   have hxU : (V.alloc (.cells #[.int .i64 0, .string ⟨#[]⟩, .int .i64 0] 90)).heap[V.heap.size]? = some (.cells #[.int .i64 0, .string ⟨#[]⟩, .int .i64 0] 90 (0, 0)) := alloc_at rfl
   have hsU : (V.alloc (.cells #[.int .i64 0, .string ⟨#[]⟩, .int .i64 0] 90)).heap.size = V.heap.size + 1 := by simp
   have hcU := fun (k j : Nat) (hk : k < V.heap.size) => World.cell?_alloc_lt V (.cells #[.int .i64 0, .string ⟨#[]⟩, .int .i64 0] 90) ⟨k, j, none⟩ hk
   have hHeld8 : (fun w' : World => w'.cell? ⟨w.heap.size, 1, none⟩ = some (.int .i64 (x : Int)) ∧ w'.cell? ⟨bm, 3, none⟩ = some (.slice (some ⟨b, off, none⟩) regs.length e) ∧ w'.cell? ⟨b, off + x, none⟩ = some (.int .i64 (q : Int))) (V.alloc (.cells #[.int .i64 0, .string ⟨#[]⟩, .int .i64 0] 90)) := ⟨(hcU _ _ hgV).trans HS1.out.1, (hcU _ _ hbmV).trans HS1.out.2.1, (hcU _ _ hb).trans HS1.out.2.2⟩
   refine hK _ _ hHeld8 ?_
   clear hK K hHeld
   have hHeld := hHeld8
   clear hHeld8
   try simp only [Act.put, sA, sZ, sS]
   clear hcU hrow
   generalize V.alloc (.cells #[.int .i64 0, .string ⟨#[]⟩, .int .i64 0] 90) = U at *
   obtain ⟨t0, t1, t2, tl⟩ := open3 hxU
   have tf0 := frozen_of hxU 0
   have tf1 := frozen_of hxU 1
   have tf2 := frozen_of hxU 2
   have hs0 := set_block (k := 0) hxU (.int .i64 1)
   have hs1 := set_block (k := 1) hs0 (.string ⟨#[]⟩)
   have hs2 := set_block (k := 2) hs1 (.int .i64 (q : Int))
   have HSf := Lib.hid hHeld
   refine oneH 10 (fun K hK => ?_)
   go_simp
   have hoth : ∀ k, k ≠ V.heap.size → (((U.setCell ⟨V.heap.size, 0, none⟩ (.int .i64 1)).setCell ⟨V.heap.size, 1, none⟩ (.string ⟨#[]⟩)).setCell ⟨V.heap.size, 2, none⟩ (.int .i64 (q : Int))).heap[k]? = U.heap[k]? := fun k hk => set3a (j := 0) hk
   have hcF := fun (k j : Nat) (hk : k ≠ V.heap.size) => World.cell?_of_block (a := ⟨k, j, none⟩) (hoth k hk)
   have hHeld8 : (fun w' : World => w'.cell? ⟨w.heap.size, 1, none⟩ = some (.int .i64 (x : Int)) ∧ w'.cell? ⟨bm, 3, none⟩ = some (.slice (some ⟨b, off, none⟩) regs.length e) ∧ w'.cell? ⟨b, off + x, none⟩ = some (.int .i64 (q : Int))) (((U.setCell ⟨V.heap.size, 0, none⟩ (.int .i64 1)).setCell ⟨V.heap.size, 1, none⟩ (.string ⟨#[]⟩)).setCell ⟨V.heap.size, 2, none⟩ (.int .i64 (q : Int))) := ⟨(hcF _ _ (by omega)).trans HSf.out.1, (hcF _ _ (by omega)).trans HSf.out.2.1, (hcF _ _ (by omega)).trans HSf.out.2.2⟩
   refine hK _ _ hHeld8 ?_
   clear hK K hHeld
   have hHeld := hHeld8
   clear hHeld8
   try simp only [Act.put, sA, sZ, sS]
   have hbF : Below w.heap.size w (((U.setCell ⟨V.heap.size, 0, none⟩ (.int .i64 1)).setCell ⟨V.heap.size, 1, none⟩ (.string ⟨#[]⟩)).setCell ⟨V.heap.size, 2, none⟩ (.int .i64 (q : Int))) := ((HU.out.low.setCell (p := ⟨V.heap.size, 0, none⟩) (by simp only; omega) _).setCell (p := ⟨V.heap.size, 1, none⟩) (by simp only; omega) _).setCell (p := ⟨V.heap.size, 2, none⟩) (by simp only; omega) _
   have HF := Lib.hid (HU.out.other hoth hbF (by omega) (by omega) (fun y hy => by have := na y hy; omega) (fun y hy => by have := nb y hy; omega) (fun y hy => by have := nr y hy; omega) (fun y hy => by have := ng y hy; omega))
   have hsF : V.heap.size < (((U.setCell ⟨V.heap.size, 0, none⟩ (.int .i64 1)).setCell ⟨V.heap.size, 1, none⟩ (.string ⟨#[]⟩)).setCell ⟨V.heap.size, 2, none⟩ (.int .i64 (q : Int))).heap.size := by simp; omega
   clear hcF hoth hbF t0 t1 t2 tl tf0 tf1 tf2 hs0 hs1 hxU na nb nr ng
   generalize (((U.setCell ⟨V.heap.size, 0, none⟩ (.int .i64 1)).setCell ⟨V.heap.size, 1, none⟩ (.string ⟨#[]⟩)).setCell ⟨V.heap.size, 2, none⟩ (.int .i64 (q : Int))) = F at *
   have HF2 := Lib.hid hs2
   clear hs2
   refine wpAnyH_done (by kernel_rfl) ?_ _
   go_wp2_with fail
   go_meet
   exact ⟨rfl, HF.out, hsF, by have h9 := HF2.out; simp at h9; exact h9⟩
 case rest =>
  obtain ⟨rfl, hBx2, hsx, hgx⟩ := hcut
  have hgbm := hbx.mx.lt
  have hgbx := block_lt hbx.box
  have hrow := fun (t : TypeId) (n k sz : Nat) (Z : Option Addr) (xs : List Value) (ho : X.drew.ownsRow base t sz (.slice Z n k) n xs) (y : Addr) (hy : Z = some y) => (Own0.lt ho y hy).2
  have na := hrow _ _ _ _ _ _ hbx.mx.a
  have nb := hrow _ _ _ _ _ _ hbx.mx.b
  have nr := hrow _ _ _ _ _ _ hbx.mx.r
  have ng := hrow _ _ _ _ _ _ hbx.mx.g
  obtain ⟨g0, hg0⟩ : ∃ g0, g0 = X.drew.heap.size := ⟨_, rfl⟩
  rw [← hg0] at hsx hgx hgbm hgbx na nb nr ng ⊢
  clear hg0 hrow hBx hbx z0 z1 z2 z3 z4 z5 zl y0 y1 y2 y3 y4 y5 yl hc hb hR
  obtain ⟨ga, xq, hA, hxq, hga, hgb, k0, k1, k2, kf, hcap, hmax⟩ := hBx2.mx.slotAt (p := q) hql
  obtain ⟨y0, y1, y2, y3, y4, y5, yl⟩ := open6 hBx2.mx.blk
  obtain ⟨t0, t1, t2, tl⟩ := open3 hgx
  have tf0 := frozen_of hgx 0
  rw [hA] at y0
  have nga := na _ hA
  simp only at nga hcap
  have hkq := Hkd.out
  rw [sAt_get hxq] at hkq
  simp only at y0 y1 y2 y3 y4 y5
  have HA := Lib.hid hA
  have HB2 := Lib.hid hBx2
  have HG2 := Lib.hid hgx
  have NA := Lib.hid na
  have NB := Lib.hid nb
  have NR := Lib.hid nr
  have NG := Lib.hid ng
  clear hA hBx2 hgx hxq k1 k2 kf na nb nr ng
  by_cases k4 : xq.kind = 4
  ·have kb : (xq.kind == 4) = true := by simp [k4]
   rw [if_pos k4] at hkq
   subst hkq
   clear k4
   refine ‹∀ (a : Act) (w : World), Code.wp _ _ _ a w → _› _ _ ?_
   go_wp2
   go_quiet (fail)
   go_upto_region 4 with fail
   refine wp_world' (Φ := fun Y => BxK w Y base bm (⟨l, tr, r, regs, (p : Int), goals⟩ : Mc) A c B d R e G f (.int .i64 i.op) (.int .i64 (x : Int)) (.int .i64 i.a) (.string i.name) (.int .i64 i.n) (.bool i.neg) ∧ Y.heap[g0]? = some (.cells #[.int .i64 3, .string emp, .int .i64 (q : Int)] 90 (0, 0))) ⟨?_, ?_⟩ ?_
   ·refine (HB2.out.below (below_drewN (Below.refl _ _) nq)).other (g := g0) (fun k hk => set_other hk _) ((below_drewN HB2.out.low nq).setCell (p := ⟨g0, 0, none⟩) (by simp only; omega) _) (by omega) (by omega) (fun y hy => by have := NA.out y hy; omega) (fun y hy => by have := NB.out y hy; omega) (fun y hy => by have := NR.out y hy; omega) (fun y hy => by have := NG.out y hy; omega)
   ·have := set_block (w := wc.drewN nq) (k := 0) (show (wc.drewN nq).heap[g0]? = _ from HG2.out) (.int .i64 3)
    simpa using this
   clear y0 y1 y2 y3 y4 y5 yl t0 t1 t2 tl tf0 k0
   rintro Y ⟨hBY, hGY⟩
   have hbx := hBY.drew
   have hgx : Y.drew.heap[g0]? = some (.cells #[.int .i64 3, .string emp, .int .i64 (q : Int)] 90 (0, 0)) := hGY
   obtain ⟨y0, y1, y2, y3, y4, y5, yl⟩ := open6 hbx.mx.blk
   obtain ⟨t0, t1, t2, tl⟩ := open3 hgx
   rw [HA.out] at y0
   refine wp_region_held_drew (S := fun w' => w'.cell? ⟨bm, 0, none⟩ = some (.slice (some ⟨ga, 0, none⟩) l.length c) ∧ (w'.cell? ⟨g0, 0, none⟩ = some (.int .i64 3) ∧ w'.cell? ⟨g0, 1, none⟩ = some (.string emp) ∧ w'.cell? ⟨g0, 2, none⟩ = some (.int .i64 (q : Int)))) (by kernel_rfl) ?gs ?gr
   case gs => exact ⟨y0, t0, t1, t2⟩
   case gr =>
    intro hHeld
    have HBx := Lib.hid hbx
    have HGx := Lib.hid hgx
    clear hBY hGY hbx hgx y0 y1 y2 y3 y4 y5 yl t0 t1 t2 tl
    generalize Y.drew = V at *
    have hbV : base ≤ V.heap.size := by have := HBx.out.low.size; omega
    have hwf : (⟨3, emp, (q : Int)⟩ : C).wf := ⟨by unfold i64; simp, by unfold i64; simp only; omega, Nat.zero_le _⟩
    have Hwf := Lib.hid hwf
    have hg0bm : g0 ≠ bm := by omega
    clear hwf
    refine stepH 0 hHeld ?_
    refine stepH 1 hHeld ?_
    refine stepH 2 hHeld ?_
    refine stepH 3 hHeld ?_
    refine stepH 4 hHeld ?_
    refine stepH 5 hHeld ?_
    refine stepH 7 hHeld ?_
    refine oneH 6 (fun K hK => ?_)
    go_simp
    go_at_call 136
    refine (kPass_any base bm (⟨l, tr, r, regs, (p : Int), goals⟩ : Mc) V ⟨_, _, _, _, _, _, _, _, HBx.out.mx⟩ hn1 hn5).mono ?_
    rintro e1 w1 ⟨rfl, rfl⟩
    have HM1 := Lib.hid (show Mx (V.setCell ⟨bm, 4, none⟩ (.int .i64 ((p : Int) + 1))) base bm ⟨l, tr, r, regs, (p : Int) + 1, goals⟩ A c B d R e G f from HBx.out.mx.next ((p : Int) + 1))
    have Hbox1 := Lib.hid ((set_other (b := bm) (k := 4) hne (.int .i64 ((p : Int) + 1))).trans HBx.out.box)
    have Hg1 := Lib.hid ((set_other (b := bm) (k := 4) hg0bm (.int .i64 ((p : Int) + 1))).trans HGx.out)
    have hy1 : (V.setCell ⟨bm, 4, none⟩ (.int .i64 ((p : Int) + 1))).cell? ⟨bm, 0, none⟩ = some (.slice A l.length c) := (open6 HM1.out.blk).1
    rw [HA.out] at hy1
    have HbX1 := Lib.hid ((HBx.out.low.mono hb0).setCell (p := ⟨bm, 4, none⟩) hlo (.int .i64 ((p : Int) + 1)))
    have HkX1 := Lib.hid ((MKept.below (bm := bm) HBx.out.low).trans (MKept.set V bm 4 (.int .i64 ((p : Int) + 1))))
    try go_simp
    have hHeld8 : (fun w' : World => w'.cell? ⟨bm, 0, none⟩ = some (.slice (some ⟨ga, 0, none⟩) l.length c) ∧ (w'.cell? ⟨g0, 0, none⟩ = some (.int .i64 3) ∧ w'.cell? ⟨g0, 1, none⟩ = some (.string emp) ∧ w'.cell? ⟨g0, 2, none⟩ = some (.int .i64 (q : Int)))) (V.setCell ⟨bm, 4, none⟩ (.int .i64 ((p : Int) + 1))) := ⟨hy1, cells_of Hg1.out 0, cells_of Hg1.out 1, cells_of Hg1.out 2⟩
    refine hK _ _ hHeld8 ?_
    clear hK K hHeld
    have hHeld := hHeld8
    clear hHeld8
    try simp only [Act.put, sA, sZ, sS]
    generalize V.setCell ⟨bm, 4, none⟩ (.int .i64 ((p : Int) + 1)) = W at *
    obtain ⟨ga2, xo, hA2, hxo, _, _, k0, k1, k2, kf, _, _⟩ := HM1.out.slotAt (p := p) hpl
    rw [HA.out] at hA2
    injection hA2 with hA2
    injection hA2 with f1 f2 f3
    subst f1
    have kf0 := kf (p * 3)
    have kf1 := kf (p * 3 + 1)
    have kf2 := kf (p * 3 + 2)
    clear kf f2 f3 hxo
    have HS := Lib.hid (show Mx (((W.setCell ⟨ga, p * 3, none⟩ (.int .i64 3)).setCell ⟨ga, p * 3 + 1, none⟩ (.string emp)).setCell ⟨ga, p * 3 + 2, none⟩ (.int .i64 (q : Int))) base bm ⟨l.set p ⟨3, emp, (q : Int)⟩, tr, r, regs, (p : Int) + 1, goals⟩ A c B d R e G f from HM1.out.slotA (x := ⟨3, emp, (q : Int)⟩) HA.out (p := p) hpl Hwf.out)
    have HbS := Lib.hid (((HbX1.out.setCell (p := ⟨ga, p * 3, none⟩) hgb (.int .i64 3)).setCell (p := ⟨ga, p * 3 + 1, none⟩) hgb (.string emp)).setCell (p := ⟨ga, p * 3 + 2, none⟩) hgb (.int .i64 (q : Int)))
    have HkS := Lib.hid (HkX1.out.slot (j := p * 3) (x := .int .i64 3) (y := .string emp) (z := .int .i64 (q : Int)) HM1.out.a HA.out (.inl rfl))
    have hne3 : bm ≠ ga := fun e => HM1.out.na _ HA.out e.symm
    have hne4 : g0 ≠ ga := by omega
    refine stepH 8 hHeld ?_
    refine oneH 9 (fun K hK => ?_)
    go_simp
    have hF1 := cells_of ((set3a (w := W) (x := .int .i64 3) (y := .string emp) (z := .int .i64 (q : Int)) (j := p * 3) hne3).trans HM1.out.blk) 0
    have hF2 := (set3a (w := W) (x := .int .i64 3) (y := .string emp) (z := .int .i64 (q : Int)) (j := p * 3) hne4).trans Hg1.out
    simp only [HA.out] at hF1
    have hHeld8 : (fun w' : World => w'.cell? ⟨bm, 0, none⟩ = some (.slice (some ⟨ga, 0, none⟩) l.length c) ∧ (w'.cell? ⟨g0, 0, none⟩ = some (.int .i64 3) ∧ w'.cell? ⟨g0, 1, none⟩ = some (.string emp) ∧ w'.cell? ⟨g0, 2, none⟩ = some (.int .i64 (q : Int)))) (((W.setCell ⟨ga, p * 3, none⟩ (.int .i64 3)).setCell ⟨ga, p * 3 + 1, none⟩ (.string emp)).setCell ⟨ga, p * 3 + 2, none⟩ (.int .i64 (q : Int))) := ⟨hF1, cells_of hF2 0, cells_of hF2 1, cells_of hF2 2⟩
    refine hK _ _ hHeld8 ?_
    clear hK K hHeld
    have hHeld := hHeld8
    clear hHeld8
    try simp only [Act.put, sA, sZ, sS]
    clear hF1 hF2 k0 k1 k2 kf0 kf1 kf2
    generalize (((W.setCell ⟨ga, p * 3, none⟩ (.int .i64 3)).setCell ⟨ga, p * 3 + 1, none⟩ (.string emp)).setCell ⟨ga, p * 3 + 2, none⟩ (.int .i64 (q : Int))) = F at *
    refine wpAnyH_done (by kernel_rfl) ?_ _
    go_wp2
    go_ret
    exact ⟨rfl, ⟨_, _, _, _, _, _, _, _, HS.out⟩, HbS.out, HkS.out⟩
  ·have kb : (xq.kind == 4) = false := by simp [k4]
   rw [if_neg k4] at hkq
   subst hkq
   clear k4
   refine ‹∀ (a : Act) (w : World), Code.wp _ _ _ a w → _› _ _ ?_
   go_wp2
   go_quiet (fail)
   go_upto_region 4 with fail
   refine wp_world' (Φ := fun Y => BxK w Y base bm (⟨l, tr, r, regs, (p : Int), goals⟩ : Mc) A c B d R e G f (.int .i64 i.op) (.int .i64 (x : Int)) (.int .i64 i.a) (.string i.name) (.int .i64 i.n) (.bool i.neg) ∧ Y.heap[g0]? = some (.cells #[.int .i64 1, .string emp, .int .i64 (q : Int)] 90 (0, 0))) ⟨?_, ?_⟩ ?_
   ·exact HB2.out.below (below_drewN (Below.refl _ _) nq)
   ·exact HG2.out
   clear y0 y1 y2 y3 y4 y5 yl t0 t1 t2 tl tf0 k0
   rintro Y ⟨hBY, hGY⟩
   have hbx := hBY.drew
   have hgx : Y.drew.heap[g0]? = some (.cells #[.int .i64 1, .string emp, .int .i64 (q : Int)] 90 (0, 0)) := hGY
   obtain ⟨y0, y1, y2, y3, y4, y5, yl⟩ := open6 hbx.mx.blk
   obtain ⟨t0, t1, t2, tl⟩ := open3 hgx
   rw [HA.out] at y0
   refine wp_region_held_drew (S := fun w' => w'.cell? ⟨bm, 0, none⟩ = some (.slice (some ⟨ga, 0, none⟩) l.length c) ∧ (w'.cell? ⟨g0, 0, none⟩ = some (.int .i64 1) ∧ w'.cell? ⟨g0, 1, none⟩ = some (.string emp) ∧ w'.cell? ⟨g0, 2, none⟩ = some (.int .i64 (q : Int)))) (by kernel_rfl) ?gs ?gr
   case gs => exact ⟨y0, t0, t1, t2⟩
   case gr =>
    intro hHeld
    have HBx := Lib.hid hbx
    have HGx := Lib.hid hgx
    clear hBY hGY hbx hgx y0 y1 y2 y3 y4 y5 yl t0 t1 t2 tl
    generalize Y.drew = V at *
    have hbV : base ≤ V.heap.size := by have := HBx.out.low.size; omega
    have hwf : (⟨1, emp, (q : Int)⟩ : C).wf := ⟨by unfold i64; simp, by unfold i64; simp only; omega, Nat.zero_le _⟩
    have Hwf := Lib.hid hwf
    have hg0bm : g0 ≠ bm := by omega
    clear hwf
    refine stepH 0 hHeld ?_
    refine stepH 1 hHeld ?_
    refine stepH 2 hHeld ?_
    refine stepH 3 hHeld ?_
    refine stepH 4 hHeld ?_
    refine stepH 5 hHeld ?_
    refine stepH 7 hHeld ?_
    refine oneH 6 (fun K hK => ?_)
    go_simp
    go_at_call 136
    refine (kPass_any base bm (⟨l, tr, r, regs, (p : Int), goals⟩ : Mc) V ⟨_, _, _, _, _, _, _, _, HBx.out.mx⟩ hn1 hn5).mono ?_
    rintro e1 w1 ⟨rfl, rfl⟩
    have HM1 := Lib.hid (show Mx (V.setCell ⟨bm, 4, none⟩ (.int .i64 ((p : Int) + 1))) base bm ⟨l, tr, r, regs, (p : Int) + 1, goals⟩ A c B d R e G f from HBx.out.mx.next ((p : Int) + 1))
    have Hbox1 := Lib.hid ((set_other (b := bm) (k := 4) hne (.int .i64 ((p : Int) + 1))).trans HBx.out.box)
    have Hg1 := Lib.hid ((set_other (b := bm) (k := 4) hg0bm (.int .i64 ((p : Int) + 1))).trans HGx.out)
    have hy1 : (V.setCell ⟨bm, 4, none⟩ (.int .i64 ((p : Int) + 1))).cell? ⟨bm, 0, none⟩ = some (.slice A l.length c) := (open6 HM1.out.blk).1
    rw [HA.out] at hy1
    have HbX1 := Lib.hid ((HBx.out.low.mono hb0).setCell (p := ⟨bm, 4, none⟩) hlo (.int .i64 ((p : Int) + 1)))
    have HkX1 := Lib.hid ((MKept.below (bm := bm) HBx.out.low).trans (MKept.set V bm 4 (.int .i64 ((p : Int) + 1))))
    try go_simp
    have hHeld8 : (fun w' : World => w'.cell? ⟨bm, 0, none⟩ = some (.slice (some ⟨ga, 0, none⟩) l.length c) ∧ (w'.cell? ⟨g0, 0, none⟩ = some (.int .i64 1) ∧ w'.cell? ⟨g0, 1, none⟩ = some (.string emp) ∧ w'.cell? ⟨g0, 2, none⟩ = some (.int .i64 (q : Int)))) (V.setCell ⟨bm, 4, none⟩ (.int .i64 ((p : Int) + 1))) := ⟨hy1, cells_of Hg1.out 0, cells_of Hg1.out 1, cells_of Hg1.out 2⟩
    refine hK _ _ hHeld8 ?_
    clear hK K hHeld
    have hHeld := hHeld8
    clear hHeld8
    try simp only [Act.put, sA, sZ, sS]
    generalize V.setCell ⟨bm, 4, none⟩ (.int .i64 ((p : Int) + 1)) = W at *
    obtain ⟨ga2, xo, hA2, hxo, _, _, k0, k1, k2, kf, _, _⟩ := HM1.out.slotAt (p := p) hpl
    rw [HA.out] at hA2
    injection hA2 with hA2
    injection hA2 with f1 f2 f3
    subst f1
    have kf0 := kf (p * 3)
    have kf1 := kf (p * 3 + 1)
    have kf2 := kf (p * 3 + 2)
    clear kf f2 f3 hxo
    have HS := Lib.hid (show Mx (((W.setCell ⟨ga, p * 3, none⟩ (.int .i64 1)).setCell ⟨ga, p * 3 + 1, none⟩ (.string emp)).setCell ⟨ga, p * 3 + 2, none⟩ (.int .i64 (q : Int))) base bm ⟨l.set p ⟨1, emp, (q : Int)⟩, tr, r, regs, (p : Int) + 1, goals⟩ A c B d R e G f from HM1.out.slotA (x := ⟨1, emp, (q : Int)⟩) HA.out (p := p) hpl Hwf.out)
    have HbS := Lib.hid (((HbX1.out.setCell (p := ⟨ga, p * 3, none⟩) hgb (.int .i64 1)).setCell (p := ⟨ga, p * 3 + 1, none⟩) hgb (.string emp)).setCell (p := ⟨ga, p * 3 + 2, none⟩) hgb (.int .i64 (q : Int)))
    have HkS := Lib.hid (HkX1.out.slot (j := p * 3) (x := .int .i64 1) (y := .string emp) (z := .int .i64 (q : Int)) HM1.out.a HA.out (.inl rfl))
    have hne3 : bm ≠ ga := fun e => HM1.out.na _ HA.out e.symm
    have hne4 : g0 ≠ ga := by omega
    refine stepH 8 hHeld ?_
    refine oneH 9 (fun K hK => ?_)
    go_simp
    have hF1 := cells_of ((set3a (w := W) (x := .int .i64 1) (y := .string emp) (z := .int .i64 (q : Int)) (j := p * 3) hne3).trans HM1.out.blk) 0
    have hF2 := (set3a (w := W) (x := .int .i64 1) (y := .string emp) (z := .int .i64 (q : Int)) (j := p * 3) hne4).trans Hg1.out
    simp only [HA.out] at hF1
    have hHeld8 : (fun w' : World => w'.cell? ⟨bm, 0, none⟩ = some (.slice (some ⟨ga, 0, none⟩) l.length c) ∧ (w'.cell? ⟨g0, 0, none⟩ = some (.int .i64 1) ∧ w'.cell? ⟨g0, 1, none⟩ = some (.string emp) ∧ w'.cell? ⟨g0, 2, none⟩ = some (.int .i64 (q : Int)))) (((W.setCell ⟨ga, p * 3, none⟩ (.int .i64 1)).setCell ⟨ga, p * 3 + 1, none⟩ (.string emp)).setCell ⟨ga, p * 3 + 2, none⟩ (.int .i64 (q : Int))) := ⟨hF1, cells_of hF2 0, cells_of hF2 1, cells_of hF2 2⟩
    refine hK _ _ hHeld8 ?_
    clear hK K hHeld
    have hHeld := hHeld8
    clear hHeld8
    try simp only [Act.put, sA, sZ, sS]
    clear hF1 hF2 k0 k1 k2 kf0 kf1 kf2
    generalize (((W.setCell ⟨ga, p * 3, none⟩ (.int .i64 1)).setCell ⟨ga, p * 3 + 1, none⟩ (.string emp)).setCell ⟨ga, p * 3 + 2, none⟩ (.int .i64 (q : Int))) = F at *
    refine wpAnyH_done (by kernel_rfl) ?_ _
    go_wp2
    go_ret
    exact ⟨rfl, ⟨_, _, _, _, _, _, _, _, HS.out⟩, HbS.out, HkS.out⟩
end Go.Proofs.YtgipiplklaeplaaDoor
namespace Go.Proofs.YtgipiplklaeplaaDoor
open Go.RowKit Go.Deep
theorem infoGoal : (Tryd.prog.info? 64).map (fun i => (i.zero, i.size, i.bytes)) = some (some (.agg #[.bool false, .int .i64 0]), 2, 16) := by kernel_rfl
theorem oneGoal (b : Bool) (n : Int) : ∀ u ∈ [Value.bool b, Value.int .i64 n], u.oneCell' = true := by
 intro u hu
 simp at hu
 rcases hu with rfl | rfl <;> rfl
theorem Mx.ap5 {w w' : World} {base bm : Nat} {m : Mc} {A B R G : Option Addr} {c d e f : Nat} (h : Mx w base bm m A c B d R e G f) {G' : Option Addr} {n' f' : Nat} {gs' : List (Bool × Int)} (ho : w'.ownsRow base 64 2 (.slice G' n' f') n' (flatG gs')) (hl : n' = gs'.length) (hp : Apart w w' G G') :
  Mx (w'.setCell ⟨bm, 5, none⟩ (.slice G' n' f')) base bm { m with goals := gs' } A c B d R e G' f' := by
 subst hl
 have hm := (hp.old bm h.lt h.ng).trans h.blk
 have x0 := set_block (k := 5) hm (.slice G' gs'.length f')
 have nG : ∀ x, G' = some x → x.block ≠ bm := fun x hx he => by
  rcases (hp.blk x hx).2 with ⟨a, ha, hb⟩ | hb
  ·exact h.ng a ha (by omega)
  ·have := h.lt; omega
 refine ⟨h.lo, by simpa using x0, own_at h.a (fun x hx => ?_), own_at h.b (fun x hx => ?_), own_at h.r (fun x hx => ?_), own_at ho (fun x hx => set_other (nG x hx) _), h.sep, h.wfc, h.wfi, h.wfr⟩
 ·rw [set_other (h.na x hx)]; exact hp.old _ (own_lt0 h.a x hx) (fun y hy => (own_two h.a h.g mc_ne.2.2.2.2.1 x y hx hy).symm)
 ·rw [set_other (h.nb x hx)]; exact hp.old _ (own_lt0 h.b x hx) (fun y hy => (own_two h.b h.g mc_ne.2.2.2.2.2 x y hx hy).symm)
 ·rw [set_other (h.nr x hx)]; exact hp.old _ (own_lt0 h.r x hx) (fun y hy => (own_two h.r h.g mc_ne.2.2.2.2.2 x y hx hy).symm)
theorem MKept.apart {w w' : World} {base bm n k size : Nat} {t : TypeId} {X X' : Option Addr} {xs : List Value} (ho : w.ownsRow base t size (.slice X n k) n xs) (hp : Apart w w' X X') (ht : t = 90 ∨ t = 3 ∨ t = 64) : MKept w w' bm :=
 ⟨hp.size, fun g cs t' n1 n2 n3 n4 hx => by
  rw [hp.old g (block_lt hx) (own_ne ho hx (by intro cur he; injection he with f1 f2 f3; rcases ht with h | h | h <;> rw [h] at f2 <;> contradiction))]
  exact hx⟩
set_option maxRecDepth 100000 in
set_option maxHeartbeats 4000000 in
theorem kCall_any (base bm : Nat) (m : Mc) (i : In) (a : Nat) (w : World) (h : Mm w base bm m) (ha : i.a = (a : Int)) (hal : a < m.regs.length) (hgl : m.goals.length ≤ 100000) (hb0 : base ≤ w.heap.size) :
  Calls Tryd.prog 161 #[.pointer (some ⟨bm, 0, none⟩), i.val] w (RetS w base bm (.ok { m with goals := m.goals ++ [(i.neg, m.reg i.a)] })) := by
 obtain ⟨A, c, B, d, R, e, G, f, hM⟩ := h
 have HM := Lib.hid hM
 have hlo := hM.lo
 have hlt := hM.lt
 clear hM
 unfold In.val
 rw [ha]
 clear ha
 go_enter Tryd.func161, Tryd.ntmps161
 go_upto_region 1 with fail
 refine wp_world' (Φ := fun X => BxK w X base bm m A c B d R e G f _ _ _ _ _ _) (BxK.mk' HM.out) ?_
 intro X hBx
 have hne : w.heap.size ≠ bm := by omega
 have hbx := hBx.drew
 obtain ⟨z0, z1, z2, z3, z4, z5, zl⟩ := open6 hbx.box
 obtain ⟨b, off, hR, hb, hc, hcap, hmax⟩ := hbx.mx.regAt hal
 obtain ⟨y0, y1, y2, y3, y4, y5, yl⟩ := open6 hbx.mx.blk
 rw [hR] at y3
 have HR := Lib.hid hR
 refine region_but 20 (fun w' => w'.cell? ⟨w.heap.size, 2, none⟩ = some (.int .i64 (a : Int)) ∧ w'.cell? ⟨w.heap.size, 5, none⟩ = some (.bool i.neg) ∧ w'.cell? ⟨bm, 3, none⟩ = some (.slice (some ⟨b, off, none⟩) m.regs.length e) ∧ w'.cell? ⟨b, off + a, none⟩ = some (.int .i64 (m.reg a)) ∧ w'.cell? ⟨bm, 5, none⟩ = some (.slice G m.goals.length f)) (by kernel_rfl) ?_
 have hHeld : (fun w' : World => w'.cell? ⟨w.heap.size, 2, none⟩ = some (.int .i64 (a : Int)) ∧ w'.cell? ⟨w.heap.size, 5, none⟩ = some (.bool i.neg) ∧ w'.cell? ⟨bm, 3, none⟩ = some (.slice (some ⟨b, off, none⟩) m.regs.length e) ∧ w'.cell? ⟨b, off + a, none⟩ = some (.int .i64 (m.reg a)) ∧ w'.cell? ⟨bm, 5, none⟩ = some (.slice G m.goals.length f)) X.drew := ⟨z2, z5, y3, hc, y5⟩
 have HBx := Lib.hid hbx
 have HS1 := Lib.hid hHeld
 clear hBx hbx z0 z1 z2 z3 z4 z5 zl y0 y1 y2 y3 y4 y5 yl hc hR
 generalize X.drew = V at *
 have hbV : base ≤ V.heap.size := by have := HBx.out.low.size; omega
 refine stepB 0 hHeld ?_
 refine stepB 1 hHeld ?_
 refine stepB 2 hHeld ?_
 refine stepB 3 hHeld ?_
 refine stepB 4 hHeld ?_
 refine stepB 5 hHeld ?_
 refine stepB 6 hHeld ?_
 refine stepB 7 hHeld ?_
 refine stepB 8 hHeld ?_
 refine stepB 9 hHeld ?_
 refine stepB 10 hHeld ?_
 refine stepB 11 hHeld ?_
 refine stepB 12 hHeld ?_
 refine stepB 13 hHeld ?_
 refine stepB 14 hHeld ?_
 refine stepB 15 hHeld ?_
 refine oneB 16 (fun K hK => ?_)
 go_simp
 have hbmV := HBx.out.mx.lt
 have hgV := block_lt HBx.out.box
 have HU := Lib.hid (HBx.out.below (basM V (.cells #[.bool i.neg, .int .i64 (m.reg a)] 64)))
 have hxU : (V.alloc (.cells #[.bool i.neg, .int .i64 (m.reg a)] 64)).heap[V.heap.size]? = some (.cells #[.bool i.neg, .int .i64 (m.reg a)] 64 (0, 0)) := alloc_at rfl
 have hcU := fun (k j : Nat) (hk : k < V.heap.size) => World.cell?_alloc_lt V (.cells #[.bool i.neg, .int .i64 (m.reg a)] 64) ⟨k, j, none⟩ hk
 have hHeld8 : (fun w' : World => w'.cell? ⟨w.heap.size, 2, none⟩ = some (.int .i64 (a : Int)) ∧ w'.cell? ⟨w.heap.size, 5, none⟩ = some (.bool i.neg) ∧ w'.cell? ⟨bm, 3, none⟩ = some (.slice (some ⟨b, off, none⟩) m.regs.length e) ∧ w'.cell? ⟨b, off + a, none⟩ = some (.int .i64 (m.reg a)) ∧ w'.cell? ⟨bm, 5, none⟩ = some (.slice G m.goals.length f)) (V.alloc (.cells #[.bool i.neg, .int .i64 (m.reg a)] 64)) := ⟨(hcU _ _ hgV).trans HS1.out.1, (hcU _ _ hgV).trans HS1.out.2.1, (hcU _ _ hbmV).trans HS1.out.2.2.1, (hcU _ _ hb).trans HS1.out.2.2.2.1, (hcU _ _ hbmV).trans HS1.out.2.2.2.2⟩
 refine hK _ _ (.inr hHeld8) ?_
 clear hK K hHeld
 have hHeld := hHeld8
 clear hHeld8
 try simp only [Act.put, sA, sZ, sS]
 have hbU : base ≤ (V.alloc (.cells #[.bool i.neg, .int .i64 (m.reg a)] 64)).heap.size := by simp; omega
 have hSl : Sl (V.alloc (.cells #[.bool i.neg, .int .i64 (m.reg a)] 64)) 2 (some ⟨V.heap.size, 0, none⟩) 1 1 [.bool i.neg, .int .i64 (m.reg a)] := Sl.lit V _ [.bool i.neg, .int .i64 (m.reg a)] 64 2 1 rfl rfl (by simp [maxLen])
 have HSl := Lib.hid hSl
 clear hcU hSl
 generalize V.alloc (.cells #[.bool i.neg, .int .i64 (m.reg a)] 64) = U at *
 have HSU := Lib.hid hHeld
 refine oneB 17 (fun K hK => ?_)
 refine step_append_ap (by rfl) (.tmp 9) (.tmp 21) 53 (by rfl) base 64 Tryd.underlying53 infoGoal (by rfl) (by omega) (by rfl) (xs := flatG m.goals) (.inr HU.out.mx.g) (by rfl) (news := [.bool i.neg, .int .i64 (m.reg a)]) HSl.out (oneGoal _ _) (by omega) (by omega) (by omega) hbU ?_
 intro G2 f2 w2 hown2 hb2 hap
 have hRb : ∀ y, G = some y → y.block ≠ b := fun y hy => (own_two HU.out.mx.r HU.out.mx.g mc_ne.2.2.2.2.2 _ y HR.out hy).symm
 have hbl : b < U.heap.size := own_lt0 HU.out.mx.r _ HR.out
 have hxg : w2.heap[w.heap.size]? = U.heap[w.heap.size]? := hap.old _ (block_lt HU.out.box) (own_ne HU.out.mx.g HU.out.box (by intro cur he; injection he with f1 f2 f3; exact absurd f2 (by decide)))
 have hxm : w2.heap[bm]? = U.heap[bm]? := hap.old _ HU.out.mx.lt HU.out.mx.ng
 have hxb : w2.heap[b]? = U.heap[b]? := hap.old _ hbl hRb
 have hcA := fun (k j : Nat) (hk : w2.heap[k]? = U.heap[k]?) => World.cell?_of_block (a := ⟨k, j, none⟩) hk
 have hHeld8 : (fun w' : World => w'.cell? ⟨w.heap.size, 2, none⟩ = some (.int .i64 (a : Int)) ∧ w'.cell? ⟨w.heap.size, 5, none⟩ = some (.bool i.neg) ∧ w'.cell? ⟨bm, 3, none⟩ = some (.slice (some ⟨b, off, none⟩) m.regs.length e) ∧ w'.cell? ⟨b, off + a, none⟩ = some (.int .i64 (m.reg a)) ∧ w'.cell? ⟨bm, 5, none⟩ = some (.slice G m.goals.length f)) w2 := ⟨(hcA _ _ hxg).trans HSU.out.1, (hcA _ _ hxg).trans HSU.out.2.1, (hcA _ _ hxm).trans HSU.out.2.2.1, (hcA _ _ hxb).trans HSU.out.2.2.2.1, (hcA _ _ hxm).trans HSU.out.2.2.2.2⟩
 refine hK _ _ (.inr hHeld8) ?_
 clear hK K hHeld
 have hHeld := hHeld8
 clear hHeld8
 try simp only [Act.put, sA, sZ, sS]
 have HF := Lib.hid (HU.out.mx.ap5 (gs' := m.goals ++ [(i.neg, m.reg a)]) (by rw [flatG_app]; exact hown2) (by simp) hap)
 have hFb := Lib.hid (((HU.out.low.mono hb0).trans hb2).setCell (p := ⟨bm, 5, none⟩) hlo (.slice G2 (m.goals.length + 1) f2))
 have hFk := Lib.hid (((MKept.below (bm := bm) HU.out.low).trans (MKept.apart HU.out.mx.g hap (.inr (.inr rfl)))).trans (MKept.set w2 bm 5 (.slice G2 (m.goals.length + 1) f2)))
 have x9 := hxm.trans HU.out.mx.blk
 obtain ⟨s0, s1, s2, s3, s4, s5, sl⟩ := open6 x9
 have sf := frozen_of x9 5
 clear hown2 hb2 hap hRb hbl hxg hxm hxb hcA x9 hxU
 have HS2 := Lib.hid hHeld
 refine oneB 18 (fun K hK => ?_)
 go_simp
 refine hK _ _ (.inr (HS2.out)) ?_
 clear hK K hHeld
 have hHeld := HS2.out
 try simp only [Act.put, sA, sZ, sS]
 refine stepB 19 hHeld ?_
 refine oneB 20 (fun K hK => ?_)
 go_simp
 refine hK _ _ (.inl rfl) ?_
 clear hK K hHeld
 try simp only [Act.put, List.setIfInBounds_toArray, List.set_cons_zero, List.set_cons_succ]
 refine but_done (by kernel_rfl) ?_ _
 go_wp2
 go_ret
 exact ⟨rfl, ⟨_, _, _, _, _, _, _, _, HF.out⟩, hFb.out, hFk.out⟩
end Go.Proofs.YtgipiplklaeplaaDoor
