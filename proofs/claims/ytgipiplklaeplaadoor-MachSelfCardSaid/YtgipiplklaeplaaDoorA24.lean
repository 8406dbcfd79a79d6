/- Texts of this proof that belong together: words of memory, plain laws, walks. -/
import Derived.StillTailTactics
import Derived.Test.YtgipiplklaeplaaDoorA07
import Derived.Test.YtgipiplklaeplaaDoorA22
import Derived.Test.YtgipiplklaeplaaDoorA23
set_option linter.unusedVariables false
set_option linter.unusedSimpArgs false
namespace Go.Proofs.YtgipiplklaeplaaDoor
open Go.RowKit
theorem bytes_inj {a b : ByteArray} (h : a.toList = b.toList) : a = b := by
  rw [ByteArray.toList_eq, ByteArray.toList_eq] at h
  cases a; cases b
  simp only at h
  rw [Array.toList_inj.1 h]
/-- the machine, and an instruction's box -/
structure BxK (w X : World) (base bm : Nat) (m : Mc) (A : Option Addr) (c : Nat) (B : Option Addr) (d : Nat) (R : Option Addr) (e : Nat) (G : Option Addr) (f : Nat) (v0 v1 v2 v3 v4 v5 : Value) : Prop where
  mx : Mx X base bm m A c B d R e G f
  low : Below w.heap.size w X
  box : X.heap[w.heap.size]? = some (.cells #[v0, v1, v2, v3, v4, v5] 88 (0, 0))
theorem BxK.mk' {w : World} {base bm : Nat} {m : Mc} {A B R G : Option Addr} {c d e f : Nat} {v0 v1 v2 v3 v4 v5 : Value} (h : Mx w base bm m A c B d R e G f) : BxK w (w.alloc (.cells #[v0, v1, v2, v3, v4, v5] 88)) base bm m A c B d R e G f v0 v1 v2 v3 v4 v5 := ⟨h.below (basM _ _), basM _ _, alloc_at rfl⟩
theorem BxK.drew {w X : World} {base bm : Nat} {m : Mc} {A B R G : Option Addr} {c d e f : Nat} {v0 v1 v2 v3 v4 v5 : Value} (h : BxK w X base bm m A c B d R e G f v0 v1 v2 v3 v4 v5) : BxK w X.drew base bm m A c B d R e G f v0 v1 v2 v3 v4 v5 := ⟨h.mx.below (Below.refl _ _).drew, h.low.drew, h.box⟩
theorem Mx.regAt {w : World} {base bm : Nat} {m : Mc} {A B R G : Option Addr} {c d e f a : Nat} (h : Mx w base bm m A c B d R e G f) (ha : a < m.regs.length) : ∃ b off, R = some ⟨b, off, none⟩ ∧ b < w.heap.size ∧ w.cell? ⟨b, off + a, none⟩ = some (.int .i64 (m.reg a)) ∧ m.regs.length ≤ e ∧ e ≤ 9223372036854775807 := by
  have hx : m.regs[a]? = some (m.reg a) := by
    unfold Mc.reg
    rw [Int.toNat_natCast, List.getElem?_eq_getElem ha]; rfl
  obtain ⟨b, off, h1, h2, h3, h4⟩ := h.isR.at_ hx
  have h5 := h.isR.sl.hmax
  unfold maxLen at h5
  exact ⟨b, off, h1, h2, h4, h.isR.sl.hcap, h5⟩
set_option maxRecDepth 100000 in
set_option maxHeartbeats 2000000 in
theorem kGetVar_any (base bm : Nat) (m : Mc) (i : In) (a : Nat) (w : World) (h : Mm w base bm m) (hm : McOk m) (ha : i.a = (a : Int)) (hal : a < m.regs.length) (hx : i.x = (m.regs.length : Int)) (hl : m.regs.length ≤ 100000) (hb0 : base ≤ w.heap.size) :
    Calls Tryd.prog 151 #[.pointer (some ⟨bm, 0, none⟩), i.val] w (RetS w base bm (.ok (m.set (m.reg i.a)))) := by
  obtain ⟨A, c, B, d, R, e, G, f, hM⟩ := h
  have HM := Lib.hid hM
  have hlo := hM.lo
  clear hM
  unfold In.val
  rw [ha, hx]
  have hreg := hm.reg (r := (a : Int)) (by omega) (by omega)
  have hfit := hm.ok.tr_len11
  have hp : i64 (m.reg a) := i64_near (by omega) (by omega)
  clear hm hreg hfit ha hx
  go_enter Tryd.func151, Tryd.ntmps151
  go_upto_region 1 with fail
  refine wp_world' (Φ := fun X => BxK w X base bm m A c B d R e G f (.int .i64 i.op) (.int .i64 (m.regs.length : Int)) (.int .i64 (a : Int)) (.string i.name) (.int .i64 i.n) (.bool i.neg)) (BxK.mk' HM.out) ?_
  intro X hBx
  obtain ⟨y0, y1, y2, y3, y4, y5, yl⟩ := open6 hBx.mx.blk
  obtain ⟨z0, z1, z2, z3, z4, z5, zl⟩ := open6 hBx.box
  obtain ⟨b, off, hR, hb, hc, hcap, hmax⟩ := hBx.mx.regAt hal
  rw [hR] at y3
  have HBx := Lib.hid hBx.drew
  clear hBx hR
  go_still_tail 11, (by kernel_rfl)
  change wpList _ _ _ _ _ X.drew
  clear y0 y1 y2 y3 y4 y5 yl z0 z1 z2 z3 z4 z5 zl hc hb
  generalize X.drew = V at *
  have hbV : base ≤ V.heap.size := by have := HBx.out.low.size; omega
  have HbV := Lib.hid (HBx.out.low.mono hb0)
  have HkV := Lib.hid (MKept.below (bm := bm) HBx.out.low)
  have HMV := Lib.hid (show Mm V base bm m from ⟨_, _, _, _, _, _, _, _, HBx.out.mx⟩)
  have HboxV := Lib.hid HBx.out.box
  clear HBx
  go_wp2_with (first
    | (go_at_call 163; go_must (refine (kSet_any base bm m (m.reg a) V HMV.out hbV hp hl).mono ?_); rintro e1 w1 ⟨rfl, hM1, hb1, hk1⟩; have HM1 := Lib.hid hM1; have Hb1 := Lib.hid (HbV.out.trans hb1); have Hk1 := Lib.hid (HkV.out.trans hk1); clear hM1 hb1 hk1))
  go_ret
  exact ⟨rfl, HM1.out, Hb1.out, Hk1.out⟩
theorem RetS.lift {w V w' : World} {base bm : Nat} {s : McR} {e : Ending} (h : RetS V base bm s e w') (hb : Below base w V) (hk : MKept w V bm) : RetS w base bm s e w' := by
  cases s with
  | ok m => exact ⟨h.1, h.2.1, hb.trans h.2.2.1, hk.trans h.2.2.2⟩
  | err n => exact ⟨h.1, hb.trans h.2.1, hk.trans h.2.2⟩
/-- such a call hands back nil, or an error -/
theorem RetS.val {V w' : World} {base bm : Nat} {s : McR} {e : Ending} (h : RetS V base bm s e w') : ∃ v, e = .returned v ∧ RetS V base bm s (.returned v) w' := by
  cases s with
  | ok m => exact ⟨_, h.1, rfl, h.2⟩
  | err n => exact ⟨_, h.1, rfl, h.2⟩
set_option maxRecDepth 100000 in
set_option maxHeartbeats 2000000 in
theorem kGetVal_any (base bm : Nat) (m : Mc) (i : In) (a x : Nat) (w : World) (h : Mm w base bm m) (hm : McOk m) (ha : i.a = (a : Int)) (hal : a < m.regs.length) (hx : i.x = (x : Int)) (hxl : x < m.regs.length) (hl : m.regs.length ≤ 100000) (hb0 : base ≤ w.heap.size) :
    Calls Tryd.prog 152 #[.pointer (some ⟨bm, 0, none⟩), i.val] w (RetS w base bm (m.unify (m.reg i.x) (m.reg i.a))) := by
  obtain ⟨A, c, B, d, R, e, G, f, hM⟩ := h
  have HM := Lib.hid hM
  have hlo := hM.lo
  clear hM
  unfold In.val
  rw [ha, hx]
  have Hok := Lib.hid hm.ok
  clear hm ha hx
  go_enter Tryd.func152, Tryd.ntmps152
  go_upto_region 1 with fail
  refine wp_world' (Φ := fun X => BxK w X base bm m A c B d R e G f _ _ _ _ _ _) (BxK.mk' HM.out) ?_
  intro X hBx
  obtain ⟨y0, y1, y2, y3, y4, y5, yl⟩ := open6 hBx.mx.blk
  obtain ⟨z0, z1, z2, z3, z4, z5, zl⟩ := open6 hBx.box
  obtain ⟨b, off, hR, hb, hc, hcap, hmax⟩ := hBx.mx.regAt hal
  obtain ⟨b', off', hR', hb', hc', _, _⟩ := hBx.mx.regAt hxl
  rw [hR] at hR'
  injection hR' with hR'
  injection hR' with q1 q2 q3
  subst q1 q2
  rw [hR] at y3
  have HBx := Lib.hid hBx.drew
  clear hBx hR
  go_still_tail 17, (by kernel_rfl)
  clear hb' hc'
  change wpList _ _ _ _ _ X.drew
  clear y0 y1 y2 y3 y4 y5 yl z0 z1 z2 z3 z4 z5 zl hc hb
  generalize X.drew = V at *
  have hbV : base ≤ V.heap.size := by have := HBx.out.low.size; omega
  have HbV := Lib.hid (HBx.out.low.mono hb0)
  have HkV := Lib.hid (MKept.below (bm := bm) HBx.out.low)
  have HMV := Lib.hid (show Mm V base bm m from ⟨_, _, _, _, _, _, _, _, HBx.out.mx⟩)
  have HboxV := Lib.hid HBx.out.box
  clear HBx
  go_wp2_with (first
    | (go_at_call 164; go_must (refine (kUnify_any base bm m (m.reg x) (m.reg a) V HMV.out Hok.out hbV).mono ?_); rintro e1 w1 h1; obtain ⟨v, rfl, h2⟩ := h1.val; have H2 := Lib.hid (h2.lift HbV.out HkV.out); clear h1 h2))
  go_ret
  exact H2.out
set_option maxRecDepth 100000 in
set_option maxHeartbeats 2000000 in
theorem kGetInt_any (base bm : Nat) (m : Mc) (i : In) (a : Nat) (w : World) (h : Mm w base bm m) (hm : McOk m) (ha : i.a = (a : Int)) (hal : a < m.regs.length) (hn : -2147483647 ≤ i.n ∧ i.n ≤ 2147483647) (hb0 : base ≤ w.heap.size) :
    Calls Tryd.prog 153 #[.pointer (some ⟨bm, 0, none⟩), i.val] w (RetS w base bm (m.number (m.reg i.a) i.n)) := by
  obtain ⟨A, c, B, d, R, e, G, f, hM⟩ := h
  have HM := Lib.hid hM
  have hlo := hM.lo
  clear hM
  unfold In.val
  rw [ha]
  have hreg := hm.reg (r := (a : Int)) (by omega) (by omega)
  obtain ⟨p, hp⟩ : ∃ p : Nat, m.reg a = (p : Int) := ⟨(m.reg a).toNat, by omega⟩
  have hpl : p < m.l.length := by omega
  have Hm := Lib.hid hm
  have Hn := Lib.hid hn
  rw [hp]
  have Hp := Lib.hid hp
  clear hm ha hn hreg hp
  go_enter Tryd.func153, Tryd.ntmps153
  go_upto_region 1 with fail
  refine wp_world' (Φ := fun X => BxK w X base bm m A c B d R e G f _ _ _ _ _ _) (BxK.mk' HM.out) ?_
  intro X hBx
  obtain ⟨y0, y1, y2, y3, y4, y5, yl⟩ := open6 hBx.mx.blk
  obtain ⟨z0, z1, z2, z3, z4, z5, zl⟩ := open6 hBx.box
  obtain ⟨b, off, hR, hb, hc, hcap, hmax⟩ := hBx.mx.regAt hal
  rw [hR] at y3
  have HBx := Lib.hid hBx.drew
  clear hBx hR
  rw [Hp.out] at hc
  go_still_tail 11, (by kernel_rfl)
  change wpList _ _ _ _ _ X.drew
  clear y0 y1 y2 y3 y4 y5 yl z0 z1 z2 z3 z4 z5 zl hc hb
  generalize X.drew = V at *
  have hbV : base ≤ V.heap.size := by have := HBx.out.low.size; omega
  have HbV := Lib.hid (HBx.out.low.mono hb0)
  have HkV := Lib.hid (MKept.below (bm := bm) HBx.out.low)
  have HMV := Lib.hid (show Mm V base bm m from ⟨_, _, _, _, _, _, _, _, HBx.out.mx⟩)
  have HboxV := Lib.hid HBx.out.box
  clear HBx
  go_wp2_with (first
    | (go_at_call 165; go_must (refine (kNumber_any base bm m p i.n V HMV.out Hm.out hpl Hn.out hbV).mono ?_); rintro e1 w1 h1; obtain ⟨v, rfl, h2⟩ := h1.val; have H2 := Lib.hid (h2.lift HbV.out HkV.out); clear h1 h2))
  go_ret
  exact H2.out
set_option maxRecDepth 100000 in
set_option maxHeartbeats 4000000 in
theorem kGetFun_any (base bm : Nat) (m : Mc) (i : In) (a n : Nat) (w : World) (h : Mm w base bm m) (hm : McOk m) (ha : i.a = (a : Int)) (hal : a < m.regs.length) (hn : i.n = (n : Int)) (hn6 : n ≤ 6) (hs : i.name.size ≤ maxLen) (hb0 : base ≤ w.heap.size) :
    Calls Tryd.prog 154 #[.pointer (some ⟨bm, 0, none⟩), i.val] w (RetS w base bm (m.fun_ (m.reg i.a) i.name i.n.toNat)) := by
  have hnn := nil_nil
  have hen := err_nil
  obtain ⟨j, hj⟩ : ∃ j : In, j = ⟨i.op, i.x, i.a, i.name, i.n, i.neg⟩ := ⟨_, rfl⟩
  have Hj := Lib.hid hj
  clear hj
  obtain ⟨A, c, B, d, R, e, G, f, hM⟩ := h
  have HM := Lib.hid hM
  have hlo := hM.lo
  clear hM
  unfold In.val
  rw [ha, hn]
  have hreg := hm.reg (r := (a : Int)) (by omega) (by omega)
  obtain ⟨p, hp⟩ : ∃ p : Nat, m.reg a = (p : Int) := ⟨(m.reg a).toNat, by omega⟩
  have hpl : p < m.l.length := by omega
  have hg := hm.ok.good
  simp only at hg
  obtain ⟨hl1, hl2⟩ := hm.ok.tr_len11
  obtain ⟨he, hq⟩ := hg.fol_end hpl
  have hr1 := hm.ok.room1
  have hr2 := hm.ok.room2
  simp only at hr1 hr2
  have Hg := Lib.hid hg
  rw [hp, Int.toNat_natCast]
  unfold Mc.fun_
  rw [Int.toNat_natCast]
  have hfo := fun (wz : World) (h : Mm wz base bm m) => kFollow_any base bm m p wz h Hg.out hpl (by omega)
  have hkq := hg.fol_kind hpl
  generalize fol m.l p = q at *
  have Hfo := Lib.hid hfo
  have Hp := Lib.hid hp
  have Hm := Lib.hid hm
  have Hb0 := Lib.hid hb0
  have Hs := Lib.hid hs
  have Hn := Lib.hid hn
  have Ha := Lib.hid ha
  obtain ⟨x, hx⟩ : ∃ x, m.l[q]? = some x := ⟨_, List.getElem?_eq_getElem hq⟩
  rw [sAt_get hx] at hkq ⊢
  have Hx := Lib.hid hx
  clear hm ha hn hreg hp hg he hfo hs hx
  generalize hR : RetS w base bm _ = Ret
  have HR := Lib.hid hR
  clear hR
  go_enter Tryd.func154, Tryd.ntmps154
  go_upto_region 1 with fail
  refine wp_world' (Φ := fun X => BxK w X base bm m A c B d R e G f _ _ _ _ _ _) (BxK.mk' HM.out) ?_
  intro X hBx
  obtain ⟨y0, y1, y2, y3, y4, y5, yl⟩ := open6 hBx.mx.blk
  obtain ⟨z0, z1, z2, z3, z4, z5, zl⟩ := open6 hBx.box
  obtain ⟨b, off, hR, hb, hc, hcap, hmax⟩ := hBx.mx.regAt hal
  rw [hR] at y3
  have HBx := Lib.hid hBx.drew
  clear hBx hR
  rw [Hp.out] at hc
  go_still_tail 9, (by kernel_rfl)
  change wpList _ _ _ _ _ X.drew
  clear y0 y1 y2 y3 y4 y5 yl z0 z1 z2 z3 z4 z5 zl hc hb
  generalize X.drew = V at *
  have hbV : base ≤ V.heap.size := by have := HBx.out.low.size; omega
  have HbV := Lib.hid (HBx.out.low.mono hb0)
  have HkV := Lib.hid (MKept.below (bm := bm) HBx.out.low)
  have HMV := Lib.hid (show Mm V base bm m from ⟨_, _, _, _, _, _, _, _, HBx.out.mx⟩)
  have HboxV := Lib.hid HBx.out.box
  clear HBx
  go_upto_region 3 with (first
    | (go_at_call 166; go_must (refine (Hfo.out V HMV.out).mono ?_); rintro e1 w1 ⟨rfl, hb1⟩; obtain ⟨A1, c1, B1, d1, R1, e1, G1, f1, hM1⟩ := HMV.out.below hb1; obtain ⟨y0, y1, y2, y3, y4, y5, yl⟩ := open6 hM1.blk; obtain ⟨b1, off1, hA1, hbb1, hwf1, k0, k1, k2⟩ := hM1.isC.at_ Hx.out; rw [hA1] at y0; have hcap1 := hM1.isC.sl.hcap; have hmax1 := hM1.isC.sl.hmax; unfold maxLen at hmax1; have Hb1 := Lib.hid hb1; have HM1 := Lib.hid hM1; have hsz1 := hb1.size; clear hM1 hb1))
  refine wp_world' (Φ := fun X => Mm X base bm m ∧ Below V.heap.size V X ∧ X.heap[w1.heap.size]? = some (.cells #[.int .i64 x.kind, .string x.name, .int .i64 x.n] 90 (0, 0))) ⟨⟨_, _, _, _, _, _, _, _, HM1.out.below (basM _ _)⟩, Hb1.out.alloc hsz1 _, alloc_at rfl⟩ ?_
  rintro Y ⟨hY, hbY, hg⟩
  have HY := Lib.hid hY
  have HbY := Lib.hid (HbV.out.trans (hbY.mono hbV))
  have HkY := Lib.hid (HkV.out.trans (MKept.below (bm := bm) hbY))
  obtain ⟨t0, t1, t2, tl⟩ := open3 hg
  have hbox := (hbY.block _ (block_lt HboxV.out)).trans HboxV.out
  obtain ⟨z0, z1, z2, z3, z4, z5, zl⟩ := open6 hbox
  have Hbox := Lib.hid hbox
  have hszY := hbY.size
  clear y0 y1 y2 y3 y4 y5 yl k0 k1 k2 HM1 Hb1 hY hbY hg Hfo hA1 hbb1 hbox HboxV HMV HbV HkV
  have hbase : base ≤ Y.heap.size := by omega
  by_cases k1 : x.kind = 1
  · have kb4 : (x.kind == 4) = false := by simp [k1]
    have kb1 : (x.kind == 1) = true := by simp [k1]
    have kb2 : (x.kind != 1) = false := by simp [k1]
    rw [if_neg (fun h => by omega), if_neg (fun h => h k1)] at HR
    clear k1 hkq
    have hst := kStruct_any base bm m ⟨i.op, i.x, (a : Int), i.name, (n : Int), i.neg⟩ n Y HY.out rfl Hs.out hn6 hbase (by omega) hr2 (by omega)
    unfold In.val RetT at hst
    simp only at hst
    by_cases hf : m.fits (n + 1)
    · rw [if_pos hf] at HR
      simp only [if_pos hf] at hst
      unfold Mc.fits at hf
      have Hst := Lib.hid hst
      have hbd := fun (wz : World) (hbz : Below base Y wz) (hM : Mm wz base bm { m with l := m.l ++ topL m.l.length i.name n, next := ((m.l.length + 1 : Nat) : Int) }) => kBind_any base bm { m with l := m.l ++ topL m.l.length i.name n, next := ((m.l.length + 1 : Nat) : Int) } q m.l.length wz hM (by have := hbz.size; omega) (by simp only [List.length_append]; omega) (by omega) (by simp only [List.length_append, topL_len]; omega) (by simp only; omega)
      have Hbd := Lib.hid hbd
      clear hbd hf hst
      go_upto_region 9 with (first
        | (go_at_call 167; go_must (refine Hst.out.mono ?_); rintro e3 w3 ⟨rfl, hM3, hb3, hk3⟩; have HM3 := Lib.hid hM3; have Hb3 := Lib.hid hb3; have Hk3 := Lib.hid hk3; clear hM3 hb3 hk3))
      clear t0 t1 t2 tl z0 z1 z2 z3 z4 z5 zl Hst
      go_wp2_with (first
        | (go_at_call 168; go_must (refine (Hbd.out _ Hb3.out HM3.out).mono ?_); rintro e4 w4 ⟨rfl, hM4, hb4, hk4⟩; have HM4 := Lib.hid hM4; have Hb4 := Lib.hid hb4; have Hk4 := Lib.hid hk4; clear hM4 hb4 hk4))
      change Ret (.returned .nilIface) _
      rw [← HR.out]
      exact ⟨rfl, HM4.out, HbY.out.trans (Hb3.out.trans Hb4.out), HkY.out.trans (Hk3.out.trans Hk4.out)⟩
    · rw [if_neg hf] at HR
      simp only [if_neg hf] at hst
      have Hst := Lib.hid hst
      clear hf hst
      go_upto_region 9 with (first
        | (go_at_call 167; go_must (refine Hst.out.mono ?_); rintro e3 w3 ⟨rfl, hb3, hk3⟩; have Hb3 := Lib.hid hb3; have Hk3 := Lib.hid hk3; clear hb3 hk3))
      clear t0 t1 t2 tl z0 z1 z2 z3 z4 z5 zl Hst
      go_wp2
      change Ret (.returned (errV 80)) _
      rw [← HR.out]
      exact ⟨rfl, HbY.out.trans Hb3.out, HkY.out.trans Hk3.out⟩
  · have kb1 : (x.kind == 1) = false := by simp [k1]
    have kb2 : (x.kind != 1) = true := by simp [k1]
    by_cases hall : x.kind = 4 ∧ x.name = i.name ∧ x.n = (n : Int)
    · rw [if_pos hall] at HR
      obtain ⟨k4, hnm, hxn⟩ := hall
      have kb4 : (x.kind == 4) = true := by simp [k4]
      rw [hnm] at t1
      rw [hxn] at t2
      obtain ⟨A2, c2, B2, d2, R2, e2, G2, f2, hM2⟩ := HY.out
      obtain ⟨y0, y1, y2, y3, y4, y5, yl⟩ := open6 hM2.blk
      have yf := frozen_of hM2.blk 4
      have HM2 := Lib.hid hM2
      clear k1 k4 hnm hxn hkq hM2
      go_wp2
      change Ret (.returned .nilIface) _
      rw [← HR.out]
      exact ⟨rfl, ⟨_, _, _, _, _, _, _, _, HM2.out.next _⟩, HbY.out.setCell hlo _, HkY.out.trans (MKept.set _ _ _ _)⟩
    · rw [if_neg hall, if_pos k1] at HR
      by_cases k4 : x.kind = 4
      · have kb4 : (x.kind == 4) = true := by simp [k4]
        by_cases hnm : x.name = i.name
        · have hxn : (x.n == (n : Int)) = false := by
            have : ¬ x.n = (n : Int) := fun h => hall ⟨k4, hnm, h⟩
            simp [this]
          rw [hnm] at t1
          clear k1 k4 hkq hall hnm
          go_wp2
          change Ret (.returned (errV 3)) _
          rw [← HR.out]
          exact ⟨rfl, HbY.out, HkY.out⟩
        · have hL0 : ¬ x.name.toList = i.name.toList := fun h => hnm (bytes_inj h)
          have hL1 : (x.name.toList == i.name.toList) = false := by simp [hL0]
          clear k1 k4 hkq hall
          go_wp2
          change Ret (.returned (errV 3)) _
          rw [← HR.out]
          exact ⟨rfl, HbY.out, HkY.out⟩
      · have kb4 : (x.kind == 4) = false := by simp [k4]
        clear k1 k4 hkq hall
        go_wp2
        change Ret (.returned (errV 3)) _
        rw [← HR.out]
        exact ⟨rfl, HbY.out, HkY.out⟩
end Go.Proofs.YtgipiplklaeplaaDoor
namespace Go.Proofs.YtgipiplklaeplaaDoor
open Go.RowKit Go.Deep
set_option maxRecDepth 100000 in
set_option maxHeartbeats 2000000 in
theorem kSetVar_any (base bm : Nat) (m : Mc) (i : In) (w : World) (h : Mm w base bm m) (hm : McOk m) (hx : i.x = (m.regs.length : Int)) (hl : m.regs.length ≤ 100000) (hb0 : base ≤ w.heap.size) :
    Calls Tryd.prog 155 #[.pointer (some ⟨bm, 0, none⟩), i.val] w (RetS w base bm (.ok (m.pass.set m.next))) := by
  obtain ⟨A, c, B, d, R, e, G, f, hM⟩ := h
  have HM := Lib.hid hM
  have hlo := hM.lo
  have hlt := hM.lt
  clear hM
  unfold In.val
  rw [hx]
  obtain ⟨hn1, hn2⟩ := hm.nx
  obtain ⟨hl1, hl2⟩ := hm.ok.tr_len11
  have hn5 : m.next ≤ 5000 := by omega
  have hi := i64_near (x := m.next) (by omega) (by omega)
  clear hm hx
  go_enter Tryd.func155, Tryd.ntmps155
  go_upto_region 1 with fail
  refine wp_world' (Φ := fun X => BxK w X base bm m A c B d R e G f _ _ _ _ _ _) (BxK.mk' HM.out) ?_
  intro X hBx
  have hne : w.heap.size ≠ bm := by omega
  have hbx := hBx.drew
  obtain ⟨z0, z1, z2, z3, z4, z5, zl⟩ := open6 hbx.box
  refine wp_region_held_drew (S := fun w' => w'.cell? ⟨w.heap.size, 1, none⟩ = some (.int .i64 (m.regs.length : Int))) (by kernel_rfl) ?gs ?gr
  case gs => exact z1
  case gr =>
    intro hHeld
    have HBx := Lib.hid hbx
    clear hBx hbx z0 z1 z2 z3 z4 z5 zl
    generalize X.drew = V at *
    have hbV : base ≤ V.heap.size := by have := HBx.out.low.size; omega
    refine stepH 0 hHeld ?_
    refine stepH 1 hHeld ?_
    refine stepH 2 hHeld ?_
    refine stepH 3 hHeld ?_
    refine oneH 4 (fun K hK => ?_)
    go_simp
    go_at_call 136
    refine (kPass_any base bm m V ⟨_, _, _, _, _, _, _, _, HBx.out.mx⟩ hn1 hn5).mono ?_
    rintro e1 w1 ⟨rfl, rfl⟩
    have HM1 := Lib.hid (HBx.out.mx.next (m.next + 1))
    have Hbox1 := Lib.hid ((set_other (b := bm) (k := 4) hne (.int .i64 (m.next + 1))).trans HBx.out.box)
    try go_simp
    refine hK _ _ (cells_of Hbox1.out 1) ?_
    clear hK K hHeld
    have hHeld := cells_of Hbox1.out 1
    try simp only [Act.put, sA, sZ, sS]
    have HbX1 := Lib.hid ((HBx.out.low.mono hb0).setCell (p := ⟨bm, 4, none⟩) hlo (.int .i64 (m.next + 1)))
    have HkX1 := Lib.hid ((MKept.below (bm := bm) HBx.out.low).trans (MKept.set V bm 4 (.int .i64 (m.next + 1))))
    have hb1 : base ≤ (V.setCell ⟨bm, 4, none⟩ (.int .i64 (m.next + 1))).heap.size := by simpa using hbV
    generalize V.setCell ⟨bm, 4, none⟩ (.int .i64 (m.next + 1)) = W at *
    refine oneH 5 (fun K hK => ?_)
    go_simp
    go_at_call 163
    refine (kSet_any base bm { m with next := m.next + 1 } m.next W ⟨_, _, _, _, _, _, _, _, HM1.out⟩ hb1 hi hl).mono ?_
    rintro e2 w2 ⟨rfl, hM2, hb2, hk2⟩
    have HM2 := Lib.hid hM2
    have Hb2 := Lib.hid hb2
    have Hk2 := Lib.hid hk2
    try go_simp
    have hHeld8 : (fun w' : World => w'.cell? ⟨w.heap.size, 1, none⟩ = some (.int .i64 (m.regs.length : Int))) w2 := cells_of (hk2.cells _ _ _ (by decide) (by decide) (by decide) hne Hbox1.out) 1
    refine hK _ _ hHeld8 ?_
    clear hK K hHeld
    have hHeld := hHeld8
    clear hHeld8
    try simp only [Act.put, sA, sZ, sS]
    refine wpAnyH_done (by kernel_rfl) ?_ _
    clear hM2 hb2 hk2
    go_wp2
    go_ret
    exact ⟨rfl, HM2.out, HbX1.out.trans Hb2.out, HkX1.out.trans Hk2.out⟩
theorem McOk.pass {m : Mc} (h : McOk m) (hn : m.next < (m.l.length : Int)) : McOk m.pass := ⟨h.ok, h.pl, by have := h.nx; simp only [Mc.pass]; omega⟩
theorem RetS.kept {V w' : World} {base bm : Nat} {s : McR} {e : Ending} (h : RetS V base bm s e w') : MKept V w' bm := by
  cases s with
  | ok m => exact h.2.2.2
  | err n => exact h.2.2
set_option maxRecDepth 100000 in
set_option maxHeartbeats 2000000 in
theorem kUniInt_any (base bm : Nat) (m : Mc) (i : In) (w : World) (h : Mm w base bm m) (hm : McOk m) (hnl : m.next < (m.l.length : Int)) (hn : -2147483647 ≤ i.n ∧ i.n ≤ 2147483647) (hb0 : base ≤ w.heap.size) :
    Calls Tryd.prog 157 #[.pointer (some ⟨bm, 0, none⟩), i.val] w (RetS w base bm (m.pass.number m.next i.n)) := by
  obtain ⟨A, c, B, d, R, e, G, f, hM⟩ := h
  have HM := Lib.hid hM
  have hlo := hM.lo
  have hlt := hM.lt
  clear hM
  unfold In.val
  obtain ⟨hn1, hn2⟩ := hm.nx
  obtain ⟨hl1, hl2⟩ := hm.ok.tr_len11
  have hn5 : m.next ≤ 5000 := by omega
  have Hm := Lib.hid (hm.pass hnl)
  have Hn := Lib.hid hn
  obtain ⟨p, hp⟩ : ∃ p : Nat, m.next = (p : Int) := ⟨m.next.toNat, by omega⟩
  have hpl : p < m.pass.l.length := by simp only [Mc.pass]; omega
  have Hp := Lib.hid hp
  have Hpl := Lib.hid hpl
  clear hm hn hp hpl
  go_enter Tryd.func157, Tryd.ntmps157
  go_upto_region 1 with fail
  refine wp_world' (Φ := fun X => BxK w X base bm m A c B d R e G f _ _ _ _ _ _) (BxK.mk' HM.out) ?_
  intro X hBx
  have hne : w.heap.size ≠ bm := by omega
  have hbx := hBx.drew
  obtain ⟨z0, z1, z2, z3, z4, z5, zl⟩ := open6 hbx.box
  refine wp_region_held_drew (S := fun w' => w'.cell? ⟨w.heap.size, 4, none⟩ = some (.int .i64 i.n)) (by kernel_rfl) ?gs ?gr
  case gs => exact z4
  case gr =>
    intro hHeld
    have HBx := Lib.hid hbx
    clear hBx hbx z0 z1 z2 z3 z4 z5 zl
    generalize X.drew = V at *
    have hbV : base ≤ V.heap.size := by have := HBx.out.low.size; omega
    refine stepH 0 hHeld ?_
    refine stepH 1 hHeld ?_
    refine stepH 3 hHeld ?_
    refine stepH 4 hHeld ?_
    refine oneH 2 (fun K hK => ?_)
    go_simp
    go_at_call 136
    refine (kPass_any base bm m V ⟨_, _, _, _, _, _, _, _, HBx.out.mx⟩ hn1 hn5).mono ?_
    rintro e1 w1 ⟨rfl, rfl⟩
    have HM1 := Lib.hid (HBx.out.mx.next (m.next + 1))
    have Hbox1 := Lib.hid ((set_other (b := bm) (k := 4) hne (.int .i64 (m.next + 1))).trans HBx.out.box)
    try go_simp
    refine hK _ _ (cells_of Hbox1.out 4) ?_
    clear hK K hHeld
    have hHeld := cells_of Hbox1.out 4
    try simp only [Act.put, sA, sZ, sS]
    have HbX1 := Lib.hid ((HBx.out.low.mono hb0).setCell (p := ⟨bm, 4, none⟩) hlo (.int .i64 (m.next + 1)))
    have HkX1 := Lib.hid ((MKept.below (bm := bm) HBx.out.low).trans (MKept.set V bm 4 (.int .i64 (m.next + 1))))
    have hb1 : base ≤ (V.setCell ⟨bm, 4, none⟩ (.int .i64 (m.next + 1))).heap.size := by simpa using hbV
    have Hnum := Lib.hid (show Calls Tryd.prog 165 #[.pointer (some ⟨bm, 0, none⟩), .int .i64 m.next, .int .i64 i.n] (V.setCell ⟨bm, 4, none⟩ (.int .i64 (m.next + 1))) (RetS (V.setCell ⟨bm, 4, none⟩ (.int .i64 (m.next + 1))) base bm (m.pass.number m.next i.n)) by
      rw [Hp.out]
      have := kNumber_any base bm m.pass p i.n (V.setCell ⟨bm, 4, none⟩ (.int .i64 (m.next + 1))) ⟨_, _, _, _, _, _, _, _, HM1.out⟩ Hm.out Hpl.out Hn.out hb1
      rw [Hp.out] at this
      exact this)
    generalize V.setCell ⟨bm, 4, none⟩ (.int .i64 (m.next + 1)) = W at *
    refine oneH 5 (fun K hK => ?_)
    go_simp
    go_at_call 165
    refine Hnum.out.mono ?_
    rintro e2 w2 h2
    obtain ⟨v, rfl, h3⟩ := h2.val
    have H2 := Lib.hid (h3.lift HbX1.out HkX1.out)
    have hbx2 := h3.kept.cells _ _ _ (by decide) (by decide) (by decide) hne Hbox1.out
    try go_simp
    refine hK _ _ (cells_of hbx2 4) ?_
    clear hK K hHeld
    have hHeld := cells_of hbx2 4
    try simp only [Act.put, sA, sZ, sS]
    refine stepH 6 hHeld ?_
    refine wpAnyH_done (by kernel_rfl) ?_ _
    clear h2 h3 hbx2
    go_wp2
    go_ret
    exact H2.out
set_option maxRecDepth 100000 in
set_option maxHeartbeats 2000000 in
theorem kUniVal_any (base bm : Nat) (m : Mc) (i : In) (x : Nat) (w : World) (h : Mm w base bm m) (hm : McOk m) (hx : i.x = (x : Int)) (hxl : x < m.regs.length) (hnl : m.next < (m.l.length : Int)) (hb0 : base ≤ w.heap.size) :
    Calls Tryd.prog 156 #[.pointer (some ⟨bm, 0, none⟩), i.val] w (RetS w base bm (m.pass.unify m.next (m.reg i.x))) := by
  obtain ⟨A, c, B, d, R, e, G, f, hM⟩ := h
  have HM := Lib.hid hM
  have hlo := hM.lo
  have hlt := hM.lt
  clear hM
  unfold In.val
  rw [hx]
  obtain ⟨hn1, hn2⟩ := hm.nx
  obtain ⟨hl1, hl2⟩ := hm.ok.tr_len11
  have hn5 : m.next ≤ 5000 := by omega
  have Hok := Lib.hid hm.ok
  clear hm hx
  go_enter Tryd.func156, Tryd.ntmps156
  go_upto_region 1 with fail
  refine wp_world' (Φ := fun X => BxK w X base bm m A c B d R e G f _ _ _ _ _ _) (BxK.mk' HM.out) ?_
  intro X hBx
  have hne : w.heap.size ≠ bm := by omega
  have hbx := hBx.drew
  obtain ⟨z0, z1, z2, z3, z4, z5, zl⟩ := open6 hbx.box
  obtain ⟨b, off, hR, hb, hc, hcap, hmax⟩ := hbx.mx.regAt hxl
  obtain ⟨y0, y1, y2, y3, y4, y5, yl⟩ := open6 hbx.mx.blk
  rw [hR] at y3
  have HR := Lib.hid hR
  refine wp_region_held_drew (S := fun w' => w'.cell? ⟨w.heap.size, 1, none⟩ = some (.int .i64 (x : Int)) ∧ w'.cell? ⟨bm, 3, none⟩ = some (.slice (some ⟨b, off, none⟩) m.regs.length e) ∧ w'.cell? ⟨b, off + x, none⟩ = some (.int .i64 (m.reg x))) (by kernel_rfl) ?gs ?gr
  case gs => exact ⟨z1, y3, hc⟩
  case gr =>
    intro hHeld
    have HBx := Lib.hid hbx
    clear hBx hbx z0 z1 z2 z3 z4 z5 zl y0 y1 y2 y3 y4 y5 yl hc hb hR
    generalize X.drew = V at *
    have hbV : base ≤ V.heap.size := by have := HBx.out.low.size; omega
    refine stepH 0 hHeld ?_
    refine stepH 1 hHeld ?_
    refine stepH 3 hHeld ?_
    refine stepH 4 hHeld ?_
    refine stepH 5 hHeld ?_
    refine stepH 6 hHeld ?_
    refine stepH 7 hHeld ?_
    refine stepH 8 hHeld ?_
    refine stepH 9 hHeld ?_
    refine stepH 10 hHeld ?_
    refine oneH 2 (fun K hK => ?_)
    go_simp
    go_at_call 136
    refine (kPass_any base bm m V ⟨_, _, _, _, _, _, _, _, HBx.out.mx⟩ hn1 hn5).mono ?_
    rintro e1 w1 ⟨rfl, rfl⟩
    have HM1 := Lib.hid (HBx.out.mx.next (m.next + 1))
    have Hbox1 := Lib.hid ((set_other (b := bm) (k := 4) hne (.int .i64 (m.next + 1))).trans HBx.out.box)
    try go_simp
    have hR1 : ∀ (W : World) (m' : Mc) {A' B' : Option Addr} {c' d' : Nat}, Mx W base bm m' A' c' B' d' R e G f → m'.regs = m.regs → W.cell? ⟨bm, 3, none⟩ = some (.slice (some ⟨b, off, none⟩) m.regs.length e) ∧ W.cell? ⟨b, off + x, none⟩ = some (.int .i64 (m.reg x)) := fun W m' A' B' c' d' hW hr => by
      obtain ⟨b2, off2, e1, _, e2, _, _⟩ := hW.regAt (a := x) (by rw [hr]; exact hxl)
      rw [HR.out] at e1
      injection e1 with e1
      injection e1 with f1 f2 f3
      subst f1 f2
      have h3 := (open6 hW.blk).2.2.2.1
      rw [HR.out, hr] at h3
      unfold Mc.reg at e2
      rw [hr] at e2
      exact ⟨h3, e2⟩
    have hHeld8 : (fun w' : World => w'.cell? ⟨w.heap.size, 1, none⟩ = some (.int .i64 (x : Int)) ∧ w'.cell? ⟨bm, 3, none⟩ = some (.slice (some ⟨b, off, none⟩) m.regs.length e) ∧ w'.cell? ⟨b, off + x, none⟩ = some (.int .i64 (m.reg x))) (V.setCell ⟨bm, 4, none⟩ (.int .i64 (m.next + 1))) := ⟨cells_of Hbox1.out 1, hR1 _ _ HM1.out rfl⟩
    refine hK _ _ hHeld8 ?_
    clear hK K hHeld
    have hHeld := hHeld8
    clear hHeld8
    try simp only [Act.put, sA, sZ, sS]
    have HbX1 := Lib.hid ((HBx.out.low.mono hb0).setCell (p := ⟨bm, 4, none⟩) hlo (.int .i64 (m.next + 1)))
    have HkX1 := Lib.hid ((MKept.below (bm := bm) HBx.out.low).trans (MKept.set V bm 4 (.int .i64 (m.next + 1))))
    have hb1 : base ≤ (V.setCell ⟨bm, 4, none⟩ (.int .i64 (m.next + 1))).heap.size := by simpa using hbV
    have Hun := Lib.hid (kUnify_mx base bm { m with next := m.next + 1 } m.next (m.reg x) (V.setCell ⟨bm, 4, none⟩ (.int .i64 (m.next + 1))) HM1.out Hok.out hb1)
    generalize V.setCell ⟨bm, 4, none⟩ (.int .i64 (m.next + 1)) = W at *
    refine oneH 11 (fun K hK => ?_)
    go_simp
    go_at_call 164
    refine Hun.out.mono ?_
    rintro e2 w2 ⟨h2, m9, A9, c9, B9, d9, hM9, hr9⟩
    obtain ⟨v, rfl, h3⟩ := h2.val
    have H2 := Lib.hid (h3.lift HbX1.out HkX1.out)
    have hbx2 := h3.kept.cells _ _ _ (by decide) (by decide) (by decide) hne Hbox1.out
    try go_simp
    have hHeld8 : (fun w' : World => w'.cell? ⟨w.heap.size, 1, none⟩ = some (.int .i64 (x : Int)) ∧ w'.cell? ⟨bm, 3, none⟩ = some (.slice (some ⟨b, off, none⟩) m.regs.length e) ∧ w'.cell? ⟨b, off + x, none⟩ = some (.int .i64 (m.reg x))) w2 := ⟨cells_of hbx2 1, hR1 _ _ hM9 hr9⟩
    refine hK _ _ hHeld8 ?_
    clear hK K hHeld
    have hHeld := hHeld8
    clear hHeld8
    try simp only [Act.put, sA, sZ, sS]
    refine stepH 12 hHeld ?_
    refine wpAnyH_done (by kernel_rfl) ?_ _
    clear h2 h3 hbx2 hM9 hr9 hR1
    go_wp2
    go_ret
    exact H2.out
end Go.Proofs.YtgipiplklaeplaaDoor
