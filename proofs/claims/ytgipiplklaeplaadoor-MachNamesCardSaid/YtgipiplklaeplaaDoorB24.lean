/- Texts of this proof that belong together: words of memory, plain laws, walks. -/
import Derived.Deep.RegionHeld3
import Derived.LaidEql
import Derived.Stop.IfaceNil
import Derived.Test.YtgipiplklaeplaaDoorB22
import Derived.Test.YtgipiplklaeplaaDoorB23
set_option linter.unusedVariables false
set_option linter.unusedSimpArgs false
namespace Go.Proofs.YtgipiplklaeplaaDoor
open Go.RowKit
set_option maxRecDepth 100000 in
set_option maxHeartbeats 2000000 in
theorem kFollow_any (base bm : Nat) (m : Mc) (p : Nat) (w : World) (h : Mm w base bm m) (hg : Good m.l) (hp : p < m.l.length) (hl : m.l.length ≤ 100000) :
  Calls Tryd.prog 166 #[.pointer (some ⟨bm, 0, none⟩), .int .i64 p] w fun e w' => e = .returned (.int .i64 (fol m.l p : Nat)) ∧ Below w.heap.size w w' := by
 obtain ⟨A, c, B, d, R, e, G, f, hM⟩ := h
 have g2 := hM.blk
 have hC := hM.isC
 have HC := Lib.hid hC
 have hrk := hg.ac.bounded
 obtain ⟨rk, hr1, hr2⟩ := hrk
 have Hr2 := Lib.hid hr2
 have Hg := Lib.hid hg
 have G2 := Lib.hid g2
 obtain ⟨n, hn⟩ : ∃ n, n = m.l.length := ⟨_, rfl⟩
 have Hn := Lib.hid hn
 rw [← hn] at hp hl G2 HC
 clear hr1 hr2 hg g2 hC hM
 clear hn
 go_enter Tryd.func166, Tryd.ntmps166
 go_wp2
 go_loopw [1] (fun i wr => ∃ q : Nat, q < n ∧ i = .int .i64 q ∧ Hid (fol m.l q = fol m.l p) ∧ Below w.heap.size w wr) (fun i _ => rk (intOf i).toNat)
 case atStart => exact ⟨p, hp, rfl, rfl, Below.refl _ _⟩
 case round =>
  obtain ⟨q, hq, rfl, hres, hb⟩ := hrel
  obtain ⟨y0, y1, y2, y3, y4, y5, yl⟩ := open6 ((hb.block bm (block_lt G2.out)).trans G2.out)
  have hCr := HC.out.below hb
  obtain ⟨x, hx⟩ := hCr.get hq
  obtain ⟨b, off, hAe, hbb, hwf, h0, h1, h2⟩ := hCr.at_ hx
  subst hAe
  have hs := sAt_get hx
  have Hs := Lib.hid hs
  have Hb := Lib.hid hb
  have hcap := hCr.sl.hcap
  have hmax := hCr.sl.hmax
  unfold maxLen at hmax
  have hbal : Below w.heap.size w (wr.alloc (.cells #[.int .i64 x.kind, .string x.name, .int .i64 x.n] 90)) := hb.alloc hb.size _
  have Hbal := Lib.hid hbal
  clear hs hx hCr hb hbal
  cases ho : onB m.l q
  ·have hk : (x.kind == 3) = false := by have := Hs.out; unfold onB at ho; rw [this] at ho; simp at ho; simpa using ho.2
   have hk2 : (x.kind != 3) = true := by simp [bne, hk]
   have Ho := Lib.hid ho
   by_cases k1 : x.kind = 1
   ·have hk1 : (x.kind != 1) = false := by simp [k1]
    have hk11 : (x.kind == 1) = true := by simp [k1]
    have hnq : (x.n == (q : Int)) = true := by have := Hs.out; unfold onB at ho; rw [this, k1] at ho; simpa using ho
    clear ho k1
    go_wp2
    go_ret
    exact ⟨ret_int (by rw [← hres.out, fol_here Ho.out]), Hbal.out⟩
   ·have hk1 : (x.kind != 1) = true := by simp [k1]
    have hk11 : (x.kind == 1) = false := by simp [k1]
    clear ho k1
    go_wp2
    go_ret
    exact ⟨ret_int (by rw [← hres.out, fol_here Ho.out]), Hbal.out⟩
  ·have hnx := nx_lt Hg.out.shp ho
   have hlt := Hr2.out q _ hnx (by rw [leads_on ho]; simp)
   have hst := Hg.out.fol_step ho
   have hnn : 0 ≤ x.n := by
    have h1 := shp_at Hg.out.shp (on_lt ho)
    have := Hs.out
    rcases on_kind ho with ⟨k, _⟩ | k
    ·have h2 := ok_ref h1 k; rw [this] at h2; omega
    ·have h2 := ok_ptr h1 k; rw [this] at h2; omega
   have hnx2 : nx m.l q = x.n.toNat := by unfold nx; rw [Hs.out]
   obtain ⟨z, hz⟩ : ∃ z : Nat, x.n = z := ⟨x.n.toNat, by omega⟩
   rw [hz] at h2 hnx2 Hbal
   simp at hnx2
   rw [hnx2] at hnx hlt hst
   have hzn : z < n := by have := Hn.out; omega
   have Hst := Lib.hid hst
   have hcase := on_kind ho
   rw [Hs.out, hz] at hcase
   clear hnx2 hst hnx ho
   rcases hcase with ⟨k1, kn⟩ | k3
   ·have hk : (x.kind == 3) = false := by simp [k1]
    have hk2 : (x.kind != 3) = true := by simp [k1]
    have hk1 : (x.kind != 1) = false := by simp [k1]
    have hk11 : (x.kind == 1) = true := by simp [k1]
    have hnq : ((z : Int) == (q : Int)) = false := by simpa using kn
    have hnq2 : (z == q) = false := by simp; omega
    clear k1 kn hz
    go_wp2
    go_roundw
    case rel => exact ⟨z, hzn, rfl, by rw [← Hst.out]; exact hres.out, Hbal.out⟩
    case measure => simp [intOf]; omega
   ·have hk : (x.kind == 3) = true := by simp [k3]
    have hk2 : (x.kind != 3) = false := by simp [k3]
    clear k3 hz
    go_wp2
    go_roundw
    case rel => exact ⟨z, hzn, rfl, by rw [← Hst.out]; exact hres.out, Hbal.out⟩
    case measure => simp [intOf]; omega
end Go.Proofs.YtgipiplklaeplaaDoor
namespace Go.Proofs.YtgipiplklaeplaaDoor
open Go.RowKit
theorem OkH.tr_len11 {l : List C} {tr : List Int} {r : Int} (h : OkH ⟨l, tr, r⟩) : l.length ≤ 4096 ∧ tr.length ≤ 4096 := by
 have h1 := h.tr.len
 have h2 := h.fit
 have h3 := h.room2
 simp only at h1 h2 h3
 omega
theorem Mx.heap {w0 w2 : World} {base bm : Nat} {m : Mc} {A B R G A' B' : Option Addr} {c d e f n' c' m' d' : Nat} {l' : List C} {tr' : List Int} (h : Mx w0 base bm m A c B d R e G f) (hb0 : base ≤ w0.heap.size) (hb : Below w0.heap.size w0 w2)
  (hA : w2.ownsRow w0.heap.size 90 3 (.slice A' n' c') n' (flatC l')) (hB : w2.ownsRow w0.heap.size 3 1 (.slice B' m' d') m' (tr'.map (Value.int .i64))) (hn : n' = l'.length) (hm : m' = tr'.length) (hw : ∀ c ∈ l', c.wf) (hi : ∀ x ∈ tr', i64 x) :
  Mx (((w2.setCell ⟨bm, 0, none⟩ (.slice A' n' c')).setCell ⟨bm, 1, none⟩ (.slice B' m' d')).setCell ⟨bm, 2, none⟩ (.int .i64 m.r)) base bm { m with l := l', tr := tr' } A' c' B' d' R e G f := by
 subst hn hm
 have h2 := h.below hb
 have lt := h.lt
 have x0 := set_block (k := 0) h2.blk (.slice A' l'.length c')
 have x1 := set_block (k := 1) x0 (.slice B' tr'.length d')
 have x2 := set_block (k := 2) x1 (.int .i64 m.r)
 have nA : ∀ a, A' = some a → a.block ≠ bm := fun a ha => by have := (Own0.lt hA a ha).1; omega
 have nB : ∀ a, B' = some a → a.block ≠ bm := fun a ha => by have := (Own0.lt hB a ha).1; omega
 refine ⟨h.lo, by simpa using x2, own_lower (own_set3 hA nA) hb0, own_lower (own_set3 hB nB) hb0, own_set3 h2.r h2.nr, own_set3 h2.g h2.ng, fun x y hx hy => ?_, hw, hi, h.wfr⟩
 have h3 := (Own0.lt hB x hx).1
 have h4 := (Own0.lt h.r y hy).2
 omega
set_option maxRecDepth 100000 in
set_option maxHeartbeats 2000000 in
theorem kUnify_mx (base bm : Nat) (m : Mc) {A : Option Addr} {c : Nat} {B : Option Addr} {d : Nat} {R : Option Addr} {e : Nat} {G : Option Addr} {f : Nat} (a b : Int) (w : World) (hM : Mx w base bm m A c B d R e G f) (ok : OkH ⟨m.l, m.tr, m.r⟩) (hb0 : base ≤ w.heap.size) :
  Calls Tryd.prog 164 #[.pointer (some ⟨bm, 0, none⟩), .int .i64 a, .int .i64 b] w fun e' w' => RetS w base bm (m.unify a b) e' w' ∧ ∃ m' A' c' B' d', Mx w' base bm m' A' c' B' d' R e G f ∧ m'.regs = m.regs := by
 obtain ⟨y0, y1, y2, y3, y4, y5, yl⟩ := open6 hM.blk
 obtain ⟨hl1, hl2⟩ := ok.tr_len11
 have hun := hUnify_any A B m.l.length c m.tr.length d m.r m.l m.tr a b w hM.isC hM.isB ok.good ok.tr (by omega) (by omega)
 have HM := Lib.hid hM
 unfold Mc.unify
 cases hu : uniZ m.l m.tr a b with
 | none =>
  rw [hu] at hun
  have Hun := Lib.hid hun
  clear hM hun hu
  go_enter Tryd.func164, Tryd.ntmps164
  go_wp2_with (first
   | (go_at_call 169; go_must (refine Hun.out.mono ?_); rintro e w2 ⟨hb2, rfl⟩; have Hb2 := Lib.hid hb2; clear hb2))
  go_ret
  exact ⟨⟨rfl, (Hb2.out.alloc Hb2.out.size _).mono hb0, MKept.below (Hb2.out.alloc Hb2.out.size _)⟩, _, _, _, _, _, HM.out.below (Hb2.out.alloc Hb2.out.size _), rfl⟩
 | some u =>
  rw [hu] at hun
  have Hun := Lib.hid hun
  clear hM hun hu
  go_enter Tryd.func164, Tryd.ntmps164
  go_upto_region 2 with (first
   | (go_at_call 169; go_must (refine Hun.out.mono ?_); rintro e w2 ⟨hb2, A', n', c', B', m', d', rfl, hC, hI, _, hoA, hoB⟩; have Hb2 := Lib.hid hb2; have HC := Lib.hid hC; have HI := Lib.hid hI; have HoA := Lib.hid hoA; have HoB := Lib.hid hoB; clear hb2 hC hI hoA hoB))
  have hb3 := Hb2.out.alloc Hb2.out.size (.cells #[.slice A' n' c', .slice B' m' d', .int .i64 m.r] 44)
  refine wp_world' (Φ := fun X => Below w.heap.size w X ∧ X.heap[w2.heap.size]? = some (.cells #[.slice A' n' c', .slice B' m' d', .int .i64 m.r] 44 (0, 0)) ∧ X.ownsRow w.heap.size 90 3 (.slice A' n' c') n' (flatC u.1) ∧ X.ownsRow w.heap.size 3 1 (.slice B' m' d') m' (u.2.map (Value.int .i64)))
   ⟨hb3, alloc_at rfl, own_below HoA.out (basM _ _), own_below HoB.out (basM _ _)⟩ ?_
  rintro X ⟨hbX, hg, hoA, hoB⟩
  have hx := HM.out.below hbX
  obtain ⟨s0, s1, s2, s3, s4, s5, sl⟩ := open6 hx.blk
  have sf0 := frozen_of hx.blk 0
  have sf1 := frozen_of hx.blk 1
  have sf2 := frozen_of hx.blk 2
  obtain ⟨t0, t1, t2, tl⟩ := open3 hg
  have hF := HM.out.heap hb0 hbX hoA hoB HC.out.len.symm HI.out.len.symm HC.out.wf HI.out.wf
  have hbF : Below base w (((X.setCell ⟨bm, 0, none⟩ (.slice A' n' c')).setCell ⟨bm, 1, none⟩ (.slice B' m' d')).setCell ⟨bm, 2, none⟩ (.int .i64 m.r)) := (((hbX.mono hb0).setCell HM.out.lo _).setCell HM.out.lo _).setCell HM.out.lo _
  have hkF : MKept w (((X.setCell ⟨bm, 0, none⟩ (.slice A' n' c')).setCell ⟨bm, 1, none⟩ (.slice B' m' d')).setCell ⟨bm, 2, none⟩ (.int .i64 m.r)) bm := (((MKept.below hbX).trans (MKept.set _ _ _ _)).trans (MKept.set _ _ _ _)).trans (MKept.set _ _ _ _)
  have HF := Lib.hid hF
  have HbF := Lib.hid hbF
  have HkF := Lib.hid hkF
  clear hb3 hbX hg hoA hoB hx hF hbF hkF HoA HoB HC HI Hb2 y0 y1 y2 y3 y4 y5 yl
  go_wp2
  go_ret
  exact ⟨⟨rfl, ⟨_, _, _, _, _, _, _, _, HF.out⟩, HbF.out, HkF.out⟩, _, _, _, _, _, HF.out, rfl⟩
theorem kUnify_any (base bm : Nat) (m : Mc) (a b : Int) (w : World) (h : Mm w base bm m) (ok : OkH ⟨m.l, m.tr, m.r⟩) (hb0 : base ≤ w.heap.size) :
  Calls Tryd.prog 164 #[.pointer (some ⟨bm, 0, none⟩), .int .i64 a, .int .i64 b] w (RetS w base bm (m.unify a b)) := by
 obtain ⟨A, c, B, d, R, e, G, f, hM⟩ := h
 exact (kUnify_mx base bm m a b w hM ok hb0).mono fun _ _ h => h.1
end Go.Proofs.YtgipiplklaeplaaDoor
namespace Go.Proofs.YtgipiplklaeplaaDoor
open Go.RowKit Go.Stop
theorem nil_nil (w : World) : (binOp .eql 118 .nilIface .nilIface).run Tryd.prog w = .ok (.bool true) w := by kernel_rfl
theorem err_nil (n : Int) (w : World) : (binOp .eql 118 (.iface 29 (.int .i64 n)) .nilIface).run Tryd.prog w = .ok (.bool false) w := run_eql_iface_nil w 118 (by kernel_rfl) _ _
set_option maxRecDepth 100000 in
set_option maxHeartbeats 4000000 in
theorem kNumber_any (base bm : Nat) (m : Mc) (p : Nat) (n : Int) (w : World) (h : Mm w base bm m) (hm : McOk m) (hp : p < m.l.length) (hn : -2147483647 ≤ n ∧ n ≤ 2147483647) (hb0 : base ≤ w.heap.size) :
  Calls Tryd.prog 165 #[.pointer (some ⟨bm, 0, none⟩), .int .i64 p, .int .i64 n] w (RetS w base bm (m.number p n)) := by
 have hg := hm.ok.good
 simp only at hg
 obtain ⟨hl1, hl2⟩ := hm.ok.tr_len11
 have hfo := kFollow_any base bm m p w h hg hp (by omega)
 obtain ⟨he, hq⟩ := hg.fol_end hp
 have hkq := hg.fol_kind hp
 have hnn := nil_nil
 have hen := err_nil
 have hr1 := hm.ok.room1
 have hr2 := hm.ok.room2
 simp only at hr1 hr2
 obtain ⟨A, c, B, d, R, e, G, f, hM⟩ := h
 unfold Mc.number
 rw [Int.toNat_natCast]
 generalize fol m.l p = q at *
 obtain ⟨x, hx⟩ : ∃ x, m.l[q]? = some x := ⟨_, List.getElem?_eq_getElem hq⟩
 obtain ⟨b, off, hAe, hbb, hwf, h0, h1, h2⟩ := hM.isC.at_ hx
 have hs := sAt_get hx
 have hcap := hM.isC.sl.hcap
 have hmax := hM.isC.sl.hmax
 unfold maxLen at hmax
 have HM := Lib.hid hM
 have Hfo := Lib.hid hfo
 have Hhx := Lib.hid hx
 rw [hs]
 have hfl := hM.lo
 have Hb0 := Lib.hid hb0
 clear hM hfo hm hg he hs hx hp
 generalize hR : RetS w base bm (if x.kind = 2 ∧ x.n = n then McR.ok m else if x.kind ≠ 1 then McR.err 3 else if m.fits 1 then McR.ok (m.putTo [⟨2, emp, n⟩] q) else McR.err 80) = Ret
 have HR := Lib.hid hR
 clear hR
 go_enter Tryd.func165, Tryd.ntmps165
 go_upto_region 3 with (first
  | (go_at_call 166; go_must (refine Hfo.out.mono ?_); rintro e1 w1 ⟨rfl, hb1⟩; have hM1 := HM.out.below hb1; obtain ⟨y0, y1, y2, y3, y4, y5, yl⟩ := open6 hM1.blk; rw [hAe] at y0; have k0 := (hb1.cell hbb).trans h0; have k1 := (hb1.cell hbb).trans h1; have k2 := (hb1.cell hbb).trans h2; have Hb1 := Lib.hid hb1; have HM1 := Lib.hid hM1; have hsz1 := hb1.size; clear hM1 hb1))
 refine wp_world' (Φ := fun X => Mx X base bm m A c B d R e G f ∧ Below w.heap.size w X ∧ X.heap[w1.heap.size]? = some (.cells #[.int .i64 x.kind, .string x.name, .int .i64 x.n] 90 (0, 0))) ⟨HM1.out.below (basM _ _), Hb1.out.alloc hsz1 _, alloc_at rfl⟩ ?_
 rintro X ⟨hX, hbX, hg⟩
 have HX := Lib.hid hX
 have HbX := Lib.hid hbX
 obtain ⟨t0, t1, t2, tl⟩ := open3 hg
 have hszX := hbX.size
 clear y0 y1 y2 y3 y4 y5 yl k0 k1 k2 HM1 Hb1 hX hbX hg h0 h1 h2 Hfo
 by_cases k2 : x.kind = 2
 ·have kb : (x.kind == 2) = true := by simp [k2]
  have kb1 : (x.kind == 1) = false := by simp [k2]
  have kb2 : (x.kind != 1) = true := by simp [k2]
  by_cases hxn : x.n = n
  ·rw [if_pos ⟨k2, hxn⟩] at HR
   have nb : (x.n == n) = true := by simp [hxn]
   clear k2 hxn hkq
   go_wp2
   change Ret (.returned (.nilIface)) _
   rw [← HR.out]
   exact ⟨rfl, ⟨_, _, _, _, _, _, _, _, HX.out⟩, HbX.out.mono Hb0.out, MKept.below HbX.out⟩
  ·rw [if_neg (fun h => hxn h.2), if_pos (by omega)] at HR
   have nb : (x.n == n) = false := by simp [hxn]
   clear k2 hxn hkq
   go_wp2
   change Ret (.returned (errV 3)) _
   rw [← HR.out]
   exact ⟨rfl, HbX.out.mono Hb0.out, MKept.below HbX.out⟩
 ·have kb : (x.kind == 2) = false := by simp [k2]
  rw [if_neg (fun h => k2 h.1)] at HR
  by_cases k1 : x.kind = 1
  ·have kb1 : (x.kind == 1) = true := by simp [k1]
   have kb2 : (x.kind != 1) = false := by simp [k1]
   rw [if_neg (fun h => h k1)] at HR
   clear k1 k2 hkq
   obtain ⟨g9, hg9⟩ : ∃ g9, g9 = X := ⟨_, rfl⟩
   have hput := fun (wz : World) (hbz : Below X.heap.size X wz) (D : Option Addr) (kc : Nat) (hC : IsC wz D 1 kc [⟨2, emp, n⟩]) => kPut_any base bm m D 1 kc [⟨2, emp, n⟩] wz ⟨_, _, _, _, _, _, _, _, HX.out.below hbz⟩ hC (by have := Hb0.out; have := hbz.size; omega) (by omega) (by omega) hr2 (by omega)
   have Hput := Lib.hid hput
   have hwn : (⟨2, emp, n⟩ : C).wf := ⟨by unfold i64; simp, by unfold i64; simp only; omega, Nat.zero_le _⟩
   clear hput
   clear hg9 g9
   by_cases hf : m.fits 1
   ·rw [if_pos hf] at HR
    unfold RetP at Hput
    simp only [List.length_cons, List.length_nil, Nat.zero_add, if_pos hf] at Hput
    have hbd := fun (wz : World) (hbz : Below base X wz) (hM : Mm wz base bm { m with l := m.l ++ [⟨2, emp, n⟩] }) => kBind_any base bm { m with l := m.l ++ [⟨2, emp, n⟩] } q m.l.length wz hM (by have := Hb0.out; have := hbz.size; omega) (by simp; omega) (by omega) (by simp; omega) (by simp only; omega)
    have Hbd := Lib.hid hbd
    clear hbd hf
    go_upto_region 8 with (first
     | (go_at_call 170; go_must (refine (Hput.out _ (basM _ _) _ _ ⟨Sl.lit X _ [.int .i64 2, .string ⟨#[]⟩, .int .i64 n] 90 3 1 rfl rfl (by simp [maxLen]), fun c hc => by simp at hc; subst hc; exact hwn⟩).mono ?_); rintro e3 w3 ⟨rfl, hM3, hb3, hk3⟩; have HM3 := Lib.hid hM3; have Hb3 := Lib.hid (((basM X (.cells #[.int .i64 2, .string ⟨#[]⟩, .int .i64 n] 90)).mono (Nat.le_trans Hb0.out hszX)).trans hb3); have Hk3 := Lib.hid ((MKept.below (bm := bm) (basM X (.cells #[.int .i64 2, .string ⟨#[]⟩, .int .i64 n] 90))).trans hk3); clear hM3 hb3 hk3))
    clear t0 t1 t2 tl Hput
    go_wp2_with (first
     | (go_at_call 168; go_must (refine (Hbd.out _ Hb3.out HM3.out).mono ?_); rintro e4 w4 ⟨rfl, hM4, hb4, hk4⟩; have HM4 := Lib.hid hM4; have Hb4 := Lib.hid hb4; have Hk4 := Lib.hid hk4; clear hM4 hb4 hk4))
    change Ret (.returned (.nilIface)) _
    rw [← HR.out]
    exact ⟨rfl, HM4.out, (HbX.out.mono Hb0.out).trans (Hb3.out.trans Hb4.out), (MKept.below HbX.out).trans (Hk3.out.trans Hk4.out)⟩
   ·rw [if_neg hf] at HR
    unfold RetP at Hput
    simp only [List.length_cons, List.length_nil, Nat.zero_add, if_neg hf] at Hput
    clear hf
    go_upto_region 8 with (first
     | (go_at_call 170; go_must (refine (Hput.out _ (basM _ _) _ _ ⟨Sl.lit X _ [.int .i64 2, .string ⟨#[]⟩, .int .i64 n] 90 3 1 rfl rfl (by simp [maxLen]), fun c hc => by simp at hc; subst hc; exact hwn⟩).mono ?_); rintro e3 w3 ⟨rfl, rfl⟩))
    clear t0 t1 t2 tl Hput
    go_wp2
    change Ret (.returned (errV 80)) _
    rw [← HR.out]
    exact ⟨rfl, (HbX.out.alloc hszX _).mono Hb0.out, MKept.below (HbX.out.alloc hszX _)⟩
  ·have kb1 : (x.kind == 1) = false := by simp [k1]
   have kb2 : (x.kind != 1) = true := by simp [k1]
   rw [if_pos k1] at HR
   clear k1 k2 hkq
   go_wp2
   change Ret (.returned (errV 3)) _
   rw [← HR.out]
   exact ⟨rfl, HbX.out.mono Hb0.out, MKept.below HbX.out⟩
end Go.Proofs.YtgipiplklaeplaaDoor
namespace Go.Proofs.YtgipiplklaeplaaDoor
open Go.RowKit
def Agr (n : Nat) (θ' θ : Nat → Tm) : Prop := ∀ p, p < n → θ' p = θ p
theorem Agr.refl (n : Nat) (θ : Nat → Tm) : Agr n θ θ := fun _ _ => rfl
theorem Agr.trans {n k : Nat} {a b c : Nat → Tm} (h : Agr k c b) (h' : Agr n b a) (hn : n ≤ k) : Agr n c a := fun p hp => (h p (by omega)).trans (h' p hp)
structure KpM (m m' : Mc) : Prop where
 mok : McOk m'
 regs : m'.regs = m.regs
 goals : m'.goals = m.goals
 r : m'.r = m.r
 le : m.l.length ≤ m'.l.length
 hst : ∃ d, Hst m.l m.tr m'.l m'.tr d
theorem McOk.grow {m m' : Mc} (h : McOk m) (hk : OkH ⟨m'.l, m'.tr, m'.r⟩) (hr : m'.regs = m.regs) (hl : m.l.length ≤ m'.l.length) (hn : 0 ≤ m'.next ∧ m'.next ≤ (m'.l.length : Int)) : McOk m' :=
 ⟨hk, fun x hx => by have := h.pl x (by rw [← hr]; exact hx); omega, hn⟩
theorem unify_mod {l : List C} {tr : List Int} {r : Int} (ok : OkH ⟨l, tr, r⟩) {a b : Nat} (ha : a < l.length) (hb : b < l.length) :
  match uniZ l tr a b with
  | some u => OkH ⟨u.1, u.2, r⟩ ∧ u.1.length = l.length ∧ (∃ d, Hst l tr u.1 u.2 d) ∧ (∀ θ, Mod l θ → θ a = θ b → Mod u.1 θ) ∧ (∀ θ, Mod u.1 θ → Mod l θ ∧ θ a = θ b)
  | none => ∀ θ, Mod l θ → θ a ≠ θ b := by
 have hz : uniZ l tr a b = uniF l tr a b := by
  unfold uniZ
  rw [if_pos ⟨⟨by omega, by omega⟩, ⟨by omega, by omega⟩⟩]
  rfl
 cases hu : uniZ l tr a b with
 | none =>
  intro θ m he
  obtain ⟨L, T, h1, _⟩ := uniF_mod ok.good ok.tr ha hb m he
  rw [hz, h1] at hu
  cases hu
 | some u =>
  obtain ⟨L, T⟩ := u
  have hok := uni_ok ok (a : Int) (b : Int)
  have hr : uRes l tr a b = (L, T) := by unfold uRes; rw [hu]; rfl
  rw [hr] at hok
  obtain ⟨ok', hlen, d, hst⟩ := hok
  simp only at ok' hlen hst ⊢
  obtain ⟨⟨p, q, e1, e2, _, _, hpq⟩, _⟩ := uniZ_alike ok hu
  have e1' : p = a := by omega
  have e2' : q = b := by omega
  subst e1' e2'
  refine ⟨ok', hlen, ⟨d, hst⟩, fun θ m he => ?_, fun θ m => ⟨hst.mod ok'.tr m, ?_⟩⟩
  ·obtain ⟨L2, T2, h1, h2⟩ := uniF_mod ok.good ok.tr ha hb m he
   rw [hz, h1] at hu
   injection hu with hu
   injection hu with hu1 hu2
   rw [← hu1]
   exact h2
  ·rw [m.den ok'.good p (by simp only; omega), m.den ok'.good q (by simp only; omega), hpq]
theorem unify_core {m : Mc} (h : McOk m) {a b : Int} (ha : 0 ≤ a ∧ a < (m.l.length : Int)) (hb : 0 ≤ b ∧ b < (m.l.length : Int)) :
  match m.unify a b with
  | .ok m' => KpM m m' ∧ m'.next = m.next ∧ m'.l.length = m.l.length ∧ (∀ θ, Mod m.l θ → θ a.toNat = θ b.toNat → Mod m'.l θ) ∧ (∀ θ, Mod m'.l θ → Mod m.l θ ∧ θ a.toNat = θ b.toNat)
  | .err e => e = 3 ∧ ∀ θ, Mod m.l θ → θ a.toNat ≠ θ b.toNat := by
 have hu := unify_mod h.ok (a := a.toNat) (b := b.toNat) (by omega) (by omega)
 rw [Int.toNat_of_nonneg ha.1, Int.toNat_of_nonneg hb.1] at hu
 unfold Mc.unify
 cases hz : uniZ m.l m.tr a b with
 | none => rw [hz] at hu; exact ⟨rfl, hu⟩
 | some u =>
  rw [hz] at hu
  obtain ⟨h1, h2, h3, h4, h5⟩ := hu
  have hnx := h.nx
  exact ⟨⟨h.grow h1 rfl (by simp only; omega) (by simp only; omega), rfl, rfl, rfl, by simp only; omega, h3⟩, rfl, h2, h4, h5⟩
theorem bindTo {l x L : List C} {tr : List Int} {r : Int} (ok : OkH ⟨l, tr, r⟩) (hL : L = l ++ x) (hg : Good L) (hx : 0 < x.length) (hfit : (L.length : Int) ≤ r) {p : Nat} (hf : Free1 l p)
  (hn : ¬ Path L l.length p) : OkH ⟨bnd L p l.length, tr ++ [(p : Int)], r⟩ ∧ (∃ d, Hst l tr (bnd L p l.length) (tr ++ [(p : Int)]) d) ∧ ∀ θ, Mod (bnd L p l.length) θ ↔ Mod L θ ∧ θ p = θ l.length := by
 have hp : Pre l L := by rw [hL]; exact Pre.append _ _
 have hlen : L.length = l.length + x.length := by rw [hL, List.length_append]
 have hfL := free_pre hp hf
 have hlt : l.length < L.length := by omega
 have hne : l.length ≠ p := by have := hf.lt; omega
 refine ⟨⟨ok.room1, ok.room2, by simp only [bnd_len]; exact hfit, hg.bind hfL hlt hn, trOk_bnd (ok.tr.pre hp) hfL hne⟩, ⟨_, (Hst.pre hp tr).trans (Hst.bnd hfL)⟩, fun θ => ⟨fun m => m.unbnd hfL hne, fun ⟨m, he⟩ => m.bnd hfL hne he⟩⟩
theorem number_core {m : Mc} (h : McOk m) {a n : Int} (ha : 0 ≤ a ∧ a < (m.l.length : Int)) (hn : -2147483647 ≤ n ∧ n ≤ 2147483647) :
  match m.number a n with
  | .ok m' => KpM m m' ∧ m'.next = m.next ∧ m'.l.length ≤ m.l.length + 1 ∧ (∀ θ, Mod m.l θ → θ a.toNat = .i n → ∃ θ', Agr m.l.length θ' θ ∧ Mod m'.l θ') ∧ (∀ θ, Mod m'.l θ → Mod m.l θ ∧ θ a.toNat = .i n)
  | .err e => (e = 3 ∧ ∀ θ, Mod m.l θ → θ a.toNat ≠ .i n) ∨ (e = 80 ∧ m.r < (m.l.length + 1 : Nat)) := by
 have hg := h.ok.good
 simp only at hg
 have hal : a.toNat < m.l.length := by omega
 obtain ⟨he, hp⟩ := hg.fol_end hal
 have hfol : ∀ θ, Mod m.l θ → θ a.toNat = θ (fol m.l a.toNat) := fun θ hm => hm.fol hg a.toNat hal
 have hk := hg.fol_kind hal
 unfold Mc.number
 generalize fol m.l a.toNat = p at *
 by_cases c1 : (sAt m.l p).kind = 2 ∧ (sAt m.l p).n = n
 ·rw [if_pos c1]
  refine ⟨⟨h, rfl, rfl, rfl, Nat.le_refl _, [], Hst.refl _ _⟩, rfl, by omega, fun θ hm _ => ⟨θ, Agr.refl _ _, hm⟩, fun θ hm => ⟨hm, ?_⟩⟩
  rw [hfol θ hm, hm.num p c1.1, c1.2]
 rw [if_neg c1]
 by_cases c2 : (sAt m.l p).kind ≠ 1
 ·rw [if_pos c2]
  refine .inl ⟨rfl, fun θ hm ht => ?_⟩
  rw [hfol θ hm] at ht
  rcases hk with ⟨k, _⟩ | k | k
  ·exact c2 k
  ·rw [hm.num p k] at ht
   injection ht with ht
   exact c1 ⟨k, ht⟩
  ·rw [hm.top p k] at ht; cases ht
 rw [if_neg c2]
 have k1 : (sAt m.l p).kind = 1 := by omega
 have hf : Free1 m.l p := ⟨hp, k1, by rw [on_ref k1] at he; simpa using he⟩
 by_cases c3 : m.fits 1
 ·rw [if_pos c3]
  have hx : sAt (m.l ++ [(⟨2, emp, n⟩ : C)]) m.l.length = ⟨2, emp, n⟩ := sAt_get (by simp)
  have hgL := numL_good hg hn.1 hn.2
  have hno : ¬ Path (m.l ++ [(⟨2, emp, n⟩ : C)]) m.l.length p := by
   intro hP
   cases hP with
   | refl => omega
   | step hq _ => rw [leads_no (by rw [on_num (by rw [hx])]) (by rw [hx]; show ¬ (2 : Int) = 4; decide)] at hq; cases hq
  obtain ⟨b1, b2, b3⟩ := bindTo h.ok (x := [⟨2, emp, n⟩]) rfl hgL (by simp) (by simp only [List.length_append, List.length_cons, List.length_nil]; exact c3) hf hno
  have hnx := h.nx
  refine ⟨⟨h.grow b1 rfl (by simp [Mc.putTo, bnd_len]) (by simp [Mc.putTo, bnd_len]; omega), rfl, rfl, rfl, by simp [Mc.putTo, bnd_len], b2⟩, rfl, by simp [Mc.putTo, bnd_len], fun θ hm ht => ?_, fun θ hm => ?_⟩
  ·refine ⟨fun q => if q = m.l.length then .i n else θ q, fun q hq => if_neg (by omega), (b3 _).2 ⟨?_, ?_⟩⟩
   ·refine hm.more hg (Pre.append _ _) (fun q hq => if_neg (by omega)) (fun q hq ho => ?_) (fun q hq hk2 => ?_) (fun q hq hk4 => ?_)
    ·have := on_lt ho
     have e : q = m.l.length := by simp at this; omega
     subst e
     rw [on_num (by rw [hx])] at ho; cases ho
    ·have := sAt_lt (by rw [hk2]; decide)
     have e : q = m.l.length := by simp at this; omega
     subst e
     rw [if_pos rfl, hx]
    ·have := sAt_lt (by rw [hk4]; decide)
     have e : q = m.l.length := by simp at this; omega
     subst e
     rw [hx] at hk4; simp at hk4
   ·show (if p = m.l.length then _ else _) = (if m.l.length = m.l.length then _ else _)
    rw [if_neg (by omega), if_pos rfl, ← hfol θ hm, ht]
  ·obtain ⟨h1, h2⟩ := (b3 θ).1 hm
   have h3 := h1.low hg (Pre.append _ _)
   refine ⟨h3, ?_⟩
   rw [hfol θ h3, h2, h1.num _ (by rw [hx]), hx]
 ·rw [if_neg c3]
  unfold Mc.fits at c3
  exact .inr ⟨rfl, by omega⟩
def topT (n0 : Nat) (s : ByteArray) (ts : List Tm) (θ : Nat → Tm) (q : Nat) : Tm := if q < n0 then θ q else if q = n0 then .f s ts else (ts[q - n0 - 1]?).getD (.v 0)
theorem topL_mod {l : List C} (hg : Good l) {s : ByteArray} {ts : List Tm} {θ : Nat → Tm} (hm : Mod l θ) : Mod (l ++ topL l.length s ts.length) (topT l.length s ts θ) := by
 have h0 := topL_zero l s ts.length
 refine hm.more hg (Pre.append _ _) (fun q hq => if_pos hq) (fun q hq ho => ?_) (fun q hq hk => ?_) (fun q hq hk => ?_)
 ·rcases topL_cases hq (on_lt ho) with rfl | ⟨k, hk, rfl⟩
  ·rw [on_top (by rw [h0])] at ho; cases ho
  ·rw [(topL_free l s ts.length hk).on] at ho; cases ho
 ·rcases topL_cases hq (sAt_lt (by rw [hk]; decide)) with rfl | ⟨k, hk', rfl⟩
  ·rw [h0] at hk; simp at hk
  ·rw [topL_at l s ts.length hk'] at hk; simp at hk
 ·rcases topL_cases hq (sAt_lt (by rw [hk]; decide)) with rfl | ⟨k, hk', rfl⟩
  ·rw [h0]
   unfold topT
   rw [if_neg (by omega), if_pos rfl]
   simp only [Int.toNat_natCast]
   congr 1
   apply List.ext_getElem?
   intro i
   rw [List.getElem?_map]
   by_cases hi : i < ts.length
   ·rw [List.getElem?_range hi, Option.map_some, if_neg (by omega), if_neg (by omega), show l.length + 1 + i - l.length - 1 = i by omega, List.getElem?_eq_getElem hi]; rfl
   ·rw [List.getElem?_eq_none (by omega), List.getElem?_eq_none (by simp; omega)]; rfl
  ·rw [topL_at l s ts.length hk'] at hk; simp at hk
theorem topT_at {n0 : Nat} {s : ByteArray} {ts : List Tm} {θ : Nat → Tm} {j : Nat} {u : Tm} (h : ts[j]? = some u) : topT n0 s ts θ (n0 + 1 + j) = u := by
 unfold topT
 rw [if_neg (by omega), if_neg (by omega), show n0 + 1 + j - n0 - 1 = j by omega, h]; rfl
theorem topT_zero {n0 : Nat} {s : ByteArray} {ts : List Tm} {θ : Nat → Tm} : topT n0 s ts θ n0 = .f s ts := by
 unfold topT
 rw [if_neg (by omega), if_pos rfl]
theorem topT_low {n0 : Nat} {s : ByteArray} {ts : List Tm} {θ : Nat → Tm} : Agr n0 (topT n0 s ts θ) θ := fun q hq => if_pos hq
theorem fun_core {m : Mc} (h : McOk m) {a : Int} {s : ByteArray} {n : Nat} (ha : 0 ≤ a ∧ a < (m.l.length : Int)) (hs : okName s = true) (hn : n ≤ 6) :
  match m.fun_ a s n with
  | .ok m' => KpM m m' ∧ m'.next + n ≤ (m'.l.length : Int) ∧ m'.l.length ≤ m.l.length + (n + 1) ∧ (∀ θ (ts : List Tm), ts.length = n → Mod m.l θ → θ a.toNat = .f s ts → ∃ θ', Agr m.l.length θ' θ ∧ Mod m'.l θ' ∧ ∀ (j : Nat) u, ts[j]? = some u → θ' (m'.next.toNat + j) = u) ∧
    (∀ θ, Mod m'.l θ → Mod m.l θ ∧ θ a.toNat = .f s ((List.range n).map fun j => θ (m'.next.toNat + j)))
  | .err e => (e = 3 ∧ ∀ θ (ts : List Tm), ts.length = n → Mod m.l θ → θ a.toNat ≠ .f s ts) ∨ (e = 80 ∧ m.r < (m.l.length + (n + 1) : Nat)) := by
 have hg := h.ok.good
 simp only at hg
 have hal : a.toNat < m.l.length := by omega
 obtain ⟨he, hp⟩ := hg.fol_end hal
 have hfol : ∀ θ, Mod m.l θ → θ a.toNat = θ (fol m.l a.toNat) := fun θ hm => hm.fol hg a.toNat hal
 have hk := hg.fol_kind hal
 unfold Mc.fun_
 generalize fol m.l a.toNat = p at *
 by_cases c1 : (sAt m.l p).kind = 4 ∧ (sAt m.l p).name = s ∧ (sAt m.l p).n = (n : Int)
 ·rw [if_pos c1]
  have ht := ok_top (shp_at hg.shp hp) c1.1
  rw [c1.2.2] at ht
  refine ⟨⟨h.grow h.ok rfl (Nat.le_refl _) ⟨by simp only; omega, by simp only; omega⟩, rfl, rfl, rfl, Nat.le_refl _, [], Hst.refl _ _⟩, by simp only; omega, by simp only; omega, fun θ ts hl hm ht => ⟨θ, Agr.refl _ _, hm, fun j u hj => ?_⟩, fun θ hm => ⟨hm, ?_⟩⟩
  ·rw [hfol θ hm, hm.top p c1.1, c1.2.1, c1.2.2] at ht
   injection ht with _ ht
   rw [← ht, List.getElem?_map, Int.toNat_natCast] at hj
   have hj' : j < n := by
    rcases Nat.lt_or_ge j n with h | h
    ·exact h
    ·rw [List.getElem?_eq_none (by simpa using h)] at hj; cases hj
   rw [List.getElem?_range hj', Option.map_some] at hj
   injection hj with hj
  ·rw [hfol θ hm, hm.top p c1.1, c1.2.1, c1.2.2]
   simp only [Int.toNat_natCast]
 rw [if_neg c1]
 by_cases c2 : (sAt m.l p).kind ≠ 1
 ·rw [if_pos c2]
  refine .inl ⟨rfl, fun θ ts hl hm ht => ?_⟩
  rw [hfol θ hm] at ht
  rcases hk with ⟨k, _⟩ | k | k
  ·exact c2 k
  ·rw [hm.num p k] at ht; cases ht
  ·rw [hm.top p k] at ht
   injection ht with ht1 ht2
   have h0 := (ok_top (shp_at hg.shp hp) k).1
   have hlen := congrArg List.length ht2
   simp at hlen
   exact c1 ⟨k, ht1, by omega⟩
 rw [if_neg c2]
 have k1 : (sAt m.l p).kind = 1 := by omega
 have hf : Free1 m.l p := ⟨hp, k1, by rw [on_ref k1] at he; simpa using he⟩
 by_cases c3 : m.fits (n + 1)
 ·rw [if_pos c3]
  have hgL := topL_good hg hs hn
  have hno : ¬ Path (m.l ++ topL m.l.length s n) m.l.length p := fun hP => by have := topL_path hP; omega
  obtain ⟨b1, b2, b3⟩ := bindTo h.ok (x := topL m.l.length s n) rfl hgL (by rw [topL_len]; omega) (by rw [List.length_append, topL_len]; exact c3) hf hno
  refine ⟨⟨h.grow b1 rfl (by simp [Mc.putTo, bnd_len]) (by simp [Mc.putTo, bnd_len, topL_len]; omega), rfl, rfl, rfl, by simp [Mc.putTo, bnd_len], b2⟩, by simp [Mc.putTo, bnd_len, topL_len]; omega, by simp [Mc.putTo, bnd_len, topL_len], fun θ ts hl hm ht => ?_, fun θ hm => ?_⟩
  ·subst hl
   refine ⟨topT m.l.length s ts θ, topT_low, (b3 _).2 ⟨topL_mod hg hm, ?_⟩, fun j u hj => ?_⟩
   ·rw [topT_zero, topT_low p hp, ← hfol θ hm, ht]
   ·show topT m.l.length s ts θ (((m.l.length + 1 : Nat) : Int).toNat + j) = u
    rw [Int.toNat_natCast]
    exact topT_at hj
  ·obtain ⟨h1, h2⟩ := (b3 θ).1 hm
   have h3 := h1.low hg (Pre.append _ _)
   refine ⟨h3, ?_⟩
   rw [hfol θ h3, h2, h1.top _ (by rw [topL_zero]), topL_zero]
   simp only [Int.toNat_natCast, Mc.putTo]
 ·rw [if_neg c3]
  unfold Mc.fits at c3
  exact .inr ⟨rfl, by omega⟩
end Go.Proofs.YtgipiplklaeplaaDoor
