/- Texts of this proof that belong together: words of memory, plain laws, walks. -/
import Derived.Test.YtgipiplklaeplaaDoorB09
import Derived.Test.YtgipiplklaeplaaDoorB25
set_option linter.unusedVariables false
set_option linter.unusedSimpArgs false
namespace Go.Proofs.YtgipiplklaeplaaDoor
open Go.RowKit Go.Deep
set_option maxRecDepth 100000 in
set_option maxHeartbeats 2000000 in
theorem kSetVar_any (base bm : Nat) (m : Mc) (i : In) (w : World) (h : Mm w base bm m) (hm : McOk m) (hx : i.x = (m.regs.length : Int)) (hl : m.regs.length ≤ 100000) (hb0 : base ≤ w.heap.size) :
  Calls Tryd.prog 155 #[.pointer (some ⟨bm, 0, none⟩), i.val] w (RetS w base bm (.ok (m.pass.set m.next))) := by
 obtain ⟨A, c, B, d, R, e, G, f, hM⟩ := h
 have HM := Lib.hid hM
 have hlo := hM.lo
 have hlt := hM.lt
 clear hM
 unfold In.val
 rw [hx]
 obtain ⟨hn1, hn2⟩ := hm.nx
 obtain ⟨hl1, hl2⟩ := hm.ok.tr_len11
 have hn5 : m.next ≤ 5000 := by omega
 have hi := i64_near (x := m.next) (by omega) (by omega)
 clear hm hx
 go_enter Tryd.func155, Tryd.ntmps155
 go_upto_region 1 with fail
 refine wp_world' (Φ := fun X => BxK w X base bm m A c B d R e G f _ _ _ _ _ _) (BxK.mk' HM.out) ?_
 intro X hBx
 have hne : w.heap.size ≠ bm := by omega
 have hbx := hBx.drew
 obtain ⟨z0, z1, z2, z3, z4, z5, zl⟩ := open6 hbx.box
 refine wp_region_held_drew (S := fun w' => w'.cell? ⟨w.heap.size, 1, none⟩ = some (.int .i64 (m.regs.length : Int))) (by kernel_rfl) ?gs ?gr
 case gs => exact z1
 case gr =>
  intro hHeld
  have HBx := Lib.hid hbx
  clear hBx hbx z0 z1 z2 z3 z4 z5 zl
  generalize X.drew = V at *
  have hbV : base ≤ V.heap.size := by have := HBx.out.low.size; omega
  refine stepH 0 hHeld ?_
  refine stepH 1 hHeld ?_
  refine stepH 2 hHeld ?_
  refine stepH 3 hHeld ?_
  refine oneH 4 (fun K hK => ?_)
  go_simp
  go_at_call 136
  refine (kPass_any base bm m V ⟨_, _, _, _, _, _, _, _, HBx.out.mx⟩ hn1 hn5).mono ?_
  rintro e1 w1 ⟨rfl, rfl⟩
  have HM1 := Lib.hid (HBx.out.mx.next (m.next + 1))
  have Hbox1 := Lib.hid ((set_other (b := bm) (k := 4) hne (.int .i64 (m.next + 1))).trans HBx.out.box)
  try go_simp
  refine hK _ _ (cells_of Hbox1.out 1) ?_
  clear hK K hHeld
  have hHeld := cells_of Hbox1.out 1
  try simp only [Act.put, sA, sZ, sS]
  have HbX1 := Lib.hid ((HBx.out.low.mono hb0).setCell (p := ⟨bm, 4, none⟩) hlo (.int .i64 (m.next + 1)))
  have HkX1 := Lib.hid ((MKept.below (bm := bm) HBx.out.low).trans (MKept.set V bm 4 (.int .i64 (m.next + 1))))
  have hb1 : base ≤ (V.setCell ⟨bm, 4, none⟩ (.int .i64 (m.next + 1))).heap.size := by simpa using hbV
  generalize V.setCell ⟨bm, 4, none⟩ (.int .i64 (m.next + 1)) = W at *
  refine oneH 5 (fun K hK => ?_)
  go_simp
  go_at_call 163
  refine (kSet_any base bm { m with next := m.next + 1 } m.next W ⟨_, _, _, _, _, _, _, _, HM1.out⟩ hb1 hi hl).mono ?_
  rintro e2 w2 ⟨rfl, hM2, hb2, hk2⟩
  have HM2 := Lib.hid hM2
  have Hb2 := Lib.hid hb2
  have Hk2 := Lib.hid hk2
  try go_simp
  have hHeld8 : (fun w' : World => w'.cell? ⟨w.heap.size, 1, none⟩ = some (.int .i64 (m.regs.length : Int))) w2 := cells_of (hk2.cells _ _ _ (by decide) (by decide) (by decide) hne Hbox1.out) 1
  refine hK _ _ hHeld8 ?_
  clear hK K hHeld
  have hHeld := hHeld8
  clear hHeld8
  try simp only [Act.put, sA, sZ, sS]
  refine wpAnyH_done (by kernel_rfl) ?_ _
  clear hM2 hb2 hk2
  go_wp2
  go_ret
  exact ⟨rfl, HM2.out, HbX1.out.trans Hb2.out, HkX1.out.trans Hk2.out⟩
theorem McOk.pass {m : Mc} (h : McOk m) (hn : m.next < (m.l.length : Int)) : McOk m.pass := ⟨h.ok, h.pl, by have := h.nx; simp only [Mc.pass]; omega⟩
theorem RetS.kept {V w' : World} {base bm : Nat} {s : McR} {e : Ending} (h : RetS V base bm s e w') : MKept V w' bm := by
 cases s with
 | ok m => exact h.2.2.2
 | err n => exact h.2.2
set_option maxRecDepth 100000 in
set_option maxHeartbeats 2000000 in
theorem kUniInt_any (base bm : Nat) (m : Mc) (i : In) (w : World) (h : Mm w base bm m) (hm : McOk m) (hnl : m.next < (m.l.length : Int)) (hn : -2147483647 ≤ i.n ∧ i.n ≤ 2147483647) (hb0 : base ≤ w.heap.size) :
  Calls Tryd.prog 157 #[.pointer (some ⟨bm, 0, none⟩), i.val] w (RetS w base bm (m.pass.number m.next i.n)) := by
 obtain ⟨A, c, B, d, R, e, G, f, hM⟩ := h
 have HM := Lib.hid hM
 have hlo := hM.lo
 have hlt := hM.lt
 clear hM
 unfold In.val
 obtain ⟨hn1, hn2⟩ := hm.nx
 obtain ⟨hl1, hl2⟩ := hm.ok.tr_len11
 have hn5 : m.next ≤ 5000 := by omega
 have Hm := Lib.hid (hm.pass hnl)
 have Hn := Lib.hid hn
 obtain ⟨p, hp⟩ : ∃ p : Nat, m.next = (p : Int) := ⟨m.next.toNat, by omega⟩
 have hpl : p < m.pass.l.length := by simp only [Mc.pass]; omega
 have Hp := Lib.hid hp
 have Hpl := Lib.hid hpl
 clear hm hn hp hpl
 go_enter Tryd.func157, Tryd.ntmps157
 go_upto_region 1 with fail
 refine wp_world' (Φ := fun X => BxK w X base bm m A c B d R e G f _ _ _ _ _ _) (BxK.mk' HM.out) ?_
 intro X hBx
 have hne : w.heap.size ≠ bm := by omega
 have hbx := hBx.drew
 obtain ⟨z0, z1, z2, z3, z4, z5, zl⟩ := open6 hbx.box
 refine wp_region_held_drew (S := fun w' => w'.cell? ⟨w.heap.size, 4, none⟩ = some (.int .i64 i.n)) (by kernel_rfl) ?gs ?gr
 case gs => exact z4
 case gr =>
  intro hHeld
  have HBx := Lib.hid hbx
  clear hBx hbx z0 z1 z2 z3 z4 z5 zl
  generalize X.drew = V at *
  have hbV : base ≤ V.heap.size := by have := HBx.out.low.size; omega
  refine stepH 0 hHeld ?_
  refine stepH 1 hHeld ?_
  refine stepH 3 hHeld ?_
  refine stepH 4 hHeld ?_
  refine oneH 2 (fun K hK => ?_)
  go_simp
  go_at_call 136
  refine (kPass_any base bm m V ⟨_, _, _, _, _, _, _, _, HBx.out.mx⟩ hn1 hn5).mono ?_
  rintro e1 w1 ⟨rfl, rfl⟩
  have HM1 := Lib.hid (HBx.out.mx.next (m.next + 1))
  have Hbox1 := Lib.hid ((set_other (b := bm) (k := 4) hne (.int .i64 (m.next + 1))).trans HBx.out.box)
  try go_simp
  refine hK _ _ (cells_of Hbox1.out 4) ?_
  clear hK K hHeld
  have hHeld := cells_of Hbox1.out 4
  try simp only [Act.put, sA, sZ, sS]
  have HbX1 := Lib.hid ((HBx.out.low.mono hb0).setCell (p := ⟨bm, 4, none⟩) hlo (.int .i64 (m.next + 1)))
  have HkX1 := Lib.hid ((MKept.below (bm := bm) HBx.out.low).trans (MKept.set V bm 4 (.int .i64 (m.next + 1))))
  have hb1 : base ≤ (V.setCell ⟨bm, 4, none⟩ (.int .i64 (m.next + 1))).heap.size := by simpa using hbV
  have Hnum := Lib.hid (show Calls Tryd.prog 165 #[.pointer (some ⟨bm, 0, none⟩), .int .i64 m.next, .int .i64 i.n] (V.setCell ⟨bm, 4, none⟩ (.int .i64 (m.next + 1))) (RetS (V.setCell ⟨bm, 4, none⟩ (.int .i64 (m.next + 1))) base bm (m.pass.number m.next i.n)) by
   rw [Hp.out]
   have := kNumber_any base bm m.pass p i.n (V.setCell ⟨bm, 4, none⟩ (.int .i64 (m.next + 1))) ⟨_, _, _, _, _, _, _, _, HM1.out⟩ Hm.out Hpl.out Hn.out hb1
   rw [Hp.out] at this
   exact this)
  generalize V.setCell ⟨bm, 4, none⟩ (.int .i64 (m.next + 1)) = W at *
  refine oneH 5 (fun K hK => ?_)
  go_simp
  go_at_call 165
  refine Hnum.out.mono ?_
  rintro e2 w2 h2
  obtain ⟨v, rfl, h3⟩ := h2.val
  have H2 := Lib.hid (h3.lift HbX1.out HkX1.out)
  have hbx2 := h3.kept.cells _ _ _ (by decide) (by decide) (by decide) hne Hbox1.out
  try go_simp
  refine hK _ _ (cells_of hbx2 4) ?_
  clear hK K hHeld
  have hHeld := cells_of hbx2 4
  try simp only [Act.put, sA, sZ, sS]
  refine stepH 6 hHeld ?_
  refine wpAnyH_done (by kernel_rfl) ?_ _
  clear h2 h3 hbx2
  go_wp2
  go_ret
  exact H2.out
set_option maxRecDepth 100000 in
set_option maxHeartbeats 2000000 in
theorem kUniVal_any (base bm : Nat) (m : Mc) (i : In) (x : Nat) (w : World) (h : Mm w base bm m) (hm : McOk m) (hx : i.x = (x : Int)) (hxl : x < m.regs.length) (hnl : m.next < (m.l.length : Int)) (hb0 : base ≤ w.heap.size) :
  Calls Tryd.prog 156 #[.pointer (some ⟨bm, 0, none⟩), i.val] w (RetS w base bm (m.pass.unify m.next (m.reg i.x))) := by
 obtain ⟨A, c, B, d, R, e, G, f, hM⟩ := h
 have HM := Lib.hid hM
 have hlo := hM.lo
 have hlt := hM.lt
 clear hM
 unfold In.val
 rw [hx]
 obtain ⟨hn1, hn2⟩ := hm.nx
 obtain ⟨hl1, hl2⟩ := hm.ok.tr_len11
 have hn5 : m.next ≤ 5000 := by omega
 have Hok := Lib.hid hm.ok
 clear hm hx
 go_enter Tryd.func156, Tryd.ntmps156
 go_upto_region 1 with fail
 refine wp_world' (Φ := fun X => BxK w X base bm m A c B d R e G f _ _ _ _ _ _) (BxK.mk' HM.out) ?_
 intro X hBx
 have hne : w.heap.size ≠ bm := by omega
 have hbx := hBx.drew
 obtain ⟨z0, z1, z2, z3, z4, z5, zl⟩ := open6 hbx.box
 obtain ⟨b, off, hR, hb, hc, hcap, hmax⟩ := hbx.mx.regAt hxl
 obtain ⟨y0, y1, y2, y3, y4, y5, yl⟩ := open6 hbx.mx.blk
 rw [hR] at y3
 have HR := Lib.hid hR
 refine wp_region_held_drew (S := fun w' => w'.cell? ⟨w.heap.size, 1, none⟩ = some (.int .i64 (x : Int)) ∧ w'.cell? ⟨bm, 3, none⟩ = some (.slice (some ⟨b, off, none⟩) m.regs.length e) ∧ w'.cell? ⟨b, off + x, none⟩ = some (.int .i64 (m.reg x))) (by kernel_rfl) ?gs ?gr
 case gs => exact ⟨z1, y3, hc⟩
 case gr =>
  intro hHeld
  have HBx := Lib.hid hbx
  clear hBx hbx z0 z1 z2 z3 z4 z5 zl y0 y1 y2 y3 y4 y5 yl hc hb hR
  generalize X.drew = V at *
  have hbV : base ≤ V.heap.size := by have := HBx.out.low.size; omega
  refine stepH 0 hHeld ?_
  refine stepH 1 hHeld ?_
  refine stepH 3 hHeld ?_
  refine stepH 4 hHeld ?_
  refine stepH 5 hHeld ?_
  refine stepH 6 hHeld ?_
  refine stepH 7 hHeld ?_
  refine stepH 8 hHeld ?_
  refine stepH 9 hHeld ?_
  refine stepH 10 hHeld ?_
  refine oneH 2 (fun K hK => ?_)
  go_simp
  go_at_call 136
  refine (kPass_any base bm m V ⟨_, _, _, _, _, _, _, _, HBx.out.mx⟩ hn1 hn5).mono ?_
  rintro e1 w1 ⟨rfl, rfl⟩
  have HM1 := Lib.hid (HBx.out.mx.next (m.next + 1))
  have Hbox1 := Lib.hid ((set_other (b := bm) (k := 4) hne (.int .i64 (m.next + 1))).trans HBx.out.box)
  try go_simp
  have hR1 : ∀ (W : World) (m' : Mc) {A' B' : Option Addr} {c' d' : Nat}, Mx W base bm m' A' c' B' d' R e G f → m'.regs = m.regs → W.cell? ⟨bm, 3, none⟩ = some (.slice (some ⟨b, off, none⟩) m.regs.length e) ∧ W.cell? ⟨b, off + x, none⟩ = some (.int .i64 (m.reg x)) := fun W m' A' B' c' d' hW hr => by
   obtain ⟨b2, off2, e1, _, e2, _, _⟩ := hW.regAt (a := x) (by rw [hr]; exact hxl)
   rw [HR.out] at e1
   injection e1 with e1
   injection e1 with f1 f2 f3
   subst f1 f2
   have h3 := (open6 hW.blk).2.2.2.1
   rw [HR.out, hr] at h3
   unfold Mc.reg at e2
   rw [hr] at e2
   exact ⟨h3, e2⟩
  have hHeld8 : (fun w' : World => w'.cell? ⟨w.heap.size, 1, none⟩ = some (.int .i64 (x : Int)) ∧ w'.cell? ⟨bm, 3, none⟩ = some (.slice (some ⟨b, off, none⟩) m.regs.length e) ∧ w'.cell? ⟨b, off + x, none⟩ = some (.int .i64 (m.reg x))) (V.setCell ⟨bm, 4, none⟩ (.int .i64 (m.next + 1))) := ⟨cells_of Hbox1.out 1, hR1 _ _ HM1.out rfl⟩
  refine hK _ _ hHeld8 ?_
  clear hK K hHeld
  have hHeld := hHeld8
  clear hHeld8
  try simp only [Act.put, sA, sZ, sS]
  have HbX1 := Lib.hid ((HBx.out.low.mono hb0).setCell (p := ⟨bm, 4, none⟩) hlo (.int .i64 (m.next + 1)))
  have HkX1 := Lib.hid ((MKept.below (bm := bm) HBx.out.low).trans (MKept.set V bm 4 (.int .i64 (m.next + 1))))
  have hb1 : base ≤ (V.setCell ⟨bm, 4, none⟩ (.int .i64 (m.next + 1))).heap.size := by simpa using hbV
  have Hun := Lib.hid (kUnify_mx base bm { m with next := m.next + 1 } m.next (m.reg x) (V.setCell ⟨bm, 4, none⟩ (.int .i64 (m.next + 1))) HM1.out Hok.out hb1)
  generalize V.setCell ⟨bm, 4, none⟩ (.int .i64 (m.next + 1)) = W at *
  refine oneH 11 (fun K hK => ?_)
  go_simp
  go_at_call 164
  refine Hun.out.mono ?_
  rintro e2 w2 ⟨h2, m9, A9, c9, B9, d9, hM9, hr9⟩
  obtain ⟨v, rfl, h3⟩ := h2.val
  have H2 := Lib.hid (h3.lift HbX1.out HkX1.out)
  have hbx2 := h3.kept.cells _ _ _ (by decide) (by decide) (by decide) hne Hbox1.out
  try go_simp
  have hHeld8 : (fun w' : World => w'.cell? ⟨w.heap.size, 1, none⟩ = some (.int .i64 (x : Int)) ∧ w'.cell? ⟨bm, 3, none⟩ = some (.slice (some ⟨b, off, none⟩) m.regs.length e) ∧ w'.cell? ⟨b, off + x, none⟩ = some (.int .i64 (m.reg x))) w2 := ⟨cells_of hbx2 1, hR1 _ _ hM9 hr9⟩
  refine hK _ _ hHeld8 ?_
  clear hK K hHeld
  have hHeld := hHeld8
  clear hHeld8
  try simp only [Act.put, sA, sZ, sS]
  refine stepH 12 hHeld ?_
  refine wpAnyH_done (by kernel_rfl) ?_ _
  clear h2 h3 hbx2 hM9 hr9 hR1
  go_wp2
  go_ret
  exact H2.out
end Go.Proofs.YtgipiplklaeplaaDoor
namespace Go.Proofs.YtgipiplklaeplaaDoor
open Go.RowKit Go.Deep
set_option maxRecDepth 100000 in
set_option maxHeartbeats 2000000 in
theorem kRest_any (base bm : Nat) (m : Mc) (i : In) (w : World) (h : Mm w base bm m) (hb0 : base ≤ w.heap.size) :
  Calls Tryd.prog 162 #[.pointer (some ⟨bm, 0, none⟩), i.val] w (RetS w base bm (.ok m)) := by
 have hb : Below w.heap.size w (w.alloc (.cells #[.int .i64 i.op, .int .i64 i.x, .int .i64 i.a, .string i.name, .int .i64 i.n, .bool i.neg] 88)) := basM _ _
 have H := Lib.hid (h.below hb)
 have Hb := Lib.hid hb
 unfold In.val
 clear h hb
 go_enter Tryd.func162, Tryd.ntmps162
 go_wp2
 go_ret
 exact ⟨rfl, H.out, Hb.out.mono hb0, MKept.below Hb.out⟩
set_option maxRecDepth 100000 in
set_option maxHeartbeats 4000000 in
theorem kPutFun_any (base bm : Nat) (m : Mc) (i : In) (n : Nat) (w : World) (h : Mm w base bm m) (hm : McOk m) (ha : i.a = (m.regs.length : Int)) (hn : i.n = (n : Int)) (hn6 : n ≤ 6) (hs : i.name.size ≤ maxLen) (hl : m.regs.length ≤ 100000) (hb0 : base ≤ w.heap.size) :
  Calls Tryd.prog 158 #[.pointer (some ⟨bm, 0, none⟩), i.val] w (RetS w base bm (m.put i.name i.n.toNat)) := by
 have hnn := nil_nil
 have hen := err_nil
 obtain ⟨hl1, hl2⟩ := hm.ok.tr_len11
 have hr1 := hm.ok.room1
 have hr2 := hm.ok.room2
 simp only at hr1 hr2
 unfold In.val
 rw [ha, hn]
 unfold Mc.put
 rw [Int.toNat_natCast]
 have hb : Below w.heap.size w (w.alloc (.cells #[.int .i64 i.op, .int .i64 i.x, .int .i64 (m.regs.length : Int), .string i.name, .int .i64 (n : Int), .bool i.neg] 88)) := basM _ _
 have hst := kStruct_any base bm m ⟨i.op, i.x, (m.regs.length : Int), i.name, (n : Int), i.neg⟩ n _ (h.below hb) rfl hs hn6 (by have := hb.size; omega) (by omega) hr2 (by omega)
 have Hb := Lib.hid hb
 obtain ⟨hlo, hlt⟩ := h.lt
 have hne : w.heap.size ≠ bm := by omega
 unfold In.val RetT at hst
 simp only at hst
 clear ha hn hm h hb
 by_cases hf : m.fits (n + 1)
 ·rw [if_pos hf]
  simp only [if_pos hf] at hst
  have Hst := Lib.hid hst
  have hset := fun (wz : World) (hbz : base ≤ wz.heap.size) (hM : Mm wz base bm { m with l := m.l ++ topL m.l.length i.name n, next := ((m.l.length + 1 : Nat) : Int) }) => kSet_any base bm { m with l := m.l ++ topL m.l.length i.name n, next := ((m.l.length + 1 : Nat) : Int) } (m.l.length : Int) wz hM hbz (i64_near (by omega) (by omega)) hl
  have Hset := Lib.hid hset
  clear hst hset hf
  go_enter Tryd.func158, Tryd.ntmps158
  go_upto_region 2 with (first
   | (go_at_call 167; go_must (refine Hst.out.mono ?_); rintro e3 w3 ⟨rfl, hM3, hb3, hk3⟩; obtain ⟨z0, z1, z2, z3, z4, z5, zl⟩ := open6 (hk3.cells _ _ _ (by decide) (by decide) (by decide) hne (alloc_at (w := w) rfl)); have HM3 := Lib.hid hM3; have Hb3 := Lib.hid ((Hb.out.mono hb0).trans hb3); have Hk3 := Lib.hid ((MKept.below (bm := bm) Hb.out).trans hk3); have hb33 := Hb3.out.size; clear hM3 hb3 hk3))
  have hb3s : base ≤ w3.heap.size := by omega
  go_wp2_with (first
   | (go_at_call 163; go_must (refine (Hset.out w3 hb3s HM3.out).mono ?_); rintro e4 w4 ⟨rfl, hM4, hb4, hk4⟩; have HM4 := Lib.hid hM4; have Hb4 := Lib.hid hb4; have Hk4 := Lib.hid hk4; clear hM4 hb4 hk4))
  go_ret
  exact ⟨rfl, HM4.out, Hb3.out.trans Hb4.out, Hk3.out.trans Hk4.out⟩
 ·rw [if_neg hf]
  simp only [if_neg hf] at hst
  have Hst := Lib.hid hst
  clear hst hf
  go_enter Tryd.func158, Tryd.ntmps158
  go_upto_region 2 with (first
   | (go_at_call 167; go_must (refine Hst.out.mono ?_); rintro e3 w3 ⟨rfl, hb3, hk3⟩; have Hb3 := Lib.hid ((Hb.out.mono hb0).trans hb3); have Hk3 := Lib.hid ((MKept.below (bm := bm) Hb.out).trans hk3); clear hb3 hk3))
  go_wp2
  go_ret
  exact ⟨rfl, Hb3.out, Hk3.out⟩
theorem own_set3a {w : World} {base size n c g j : Nat} {e : TypeId} {A : Option Addr} {xs : List Value} {x y z : Value} (h : w.ownsRow base e size (.slice A n c) n xs) (hne : ∀ a, A = some a → a.block ≠ g) : (((w.setCell ⟨g, j, none⟩ x).setCell ⟨g, j + 1, none⟩ y).setCell ⟨g, j + 2, none⟩ z).ownsRow base e size (.slice A n c) n xs := own_at h fun a ha => by
 rw [set_other (hne a ha), set_other (hne a ha), set_other (hne a ha)]
theorem flatC_slot : ∀ (l : List C) (p : Nat) (c : C), p < l.length → (((flatC l).set (p * 3) (.int .i64 c.kind)).set (p * 3 + 1) (.string c.name)).set (p * 3 + 2) (.int .i64 c.n) = flatC (l.set p c)
 | [], p, c, h => by simp at h
 | x :: l, 0, c, _ => by simp [flatC, C.flat]
 | x :: l, p + 1, c, h => by
  have ih := flatC_slot l p c (by simpa using h)
  have e1 : flatC (x :: l) = .int .i64 x.kind :: .string x.name :: .int .i64 x.n :: flatC l := rfl
  have e2 : flatC (x :: l.set p c) = .int .i64 x.kind :: .string x.name :: .int .i64 x.n :: flatC (l.set p c) := rfl
  rw [List.set_cons_succ, e1, e2, ← ih]
  rw [show (p + 1) * 3 = p * 3 + 1 + 1 + 1 by omega, show p * 3 + 1 + 1 + 1 + 1 = p * 3 + 1 + 1 + 1 + 1 by omega, show p * 3 + 1 + 1 + 1 + 2 = p * 3 + 2 + 1 + 1 + 1 by omega]
  simp only [List.set_cons_succ]
theorem Mx.slotA {w : World} {base bm : Nat} {m : Mc} {A B R G : Option Addr} {c d e f ga p : Nat} (h : Mx w base bm m A c B d R e G f) (hA : A = some ⟨ga, 0, none⟩) (hp : p < m.l.length) {x : C} (hx : x.wf) :
  Mx (((w.setCell ⟨ga, p * 3, none⟩ (.int .i64 x.kind)).setCell ⟨ga, p * 3 + 1, none⟩ (.string x.name)).setCell ⟨ga, p * 3 + 2, none⟩ (.int .i64 x.n)) base bm { m with l := m.l.set p x } A c B d R e G f := by
 have hga := h.na _ hA
 simp only at hga
 have hne : bm ≠ ga := fun e => hga e.symm
 refine ⟨h.lo, ?_, ?_, own_set3a h.b (fun x hx => ?_), own_set3a h.r (fun x hx => ?_), own_set3a h.g (fun x hx => ?_), h.sep, fun y hy => ?_, h.wfi, h.wfr⟩
 ·rw [set_other hne, set_other hne, set_other hne]; simp only [List.length_set]; exact h.blk
 ·have h0 := h.a
  rw [hA] at h0
  have h1 := (h0.stored (p * 3) (.int .i64 x.kind)).1
  have h2 := (h1.stored (p * 3 + 1) (.string x.name)).1
  have h3 := (h2.stored (p * 3 + 2) (.int .i64 x.n)).1
  rw [flatC_slot m.l p x hp] at h3
  rw [hA]
  simp only [List.length_set]
  exact h3
 ·exact fun e => own_two h.a h.b mc_ne.2.2.2.1 _ x hA hx e.symm
 ·exact fun e => own_two h.a h.r mc_ne.2.2.2.1 _ x hA hx e.symm
 ·exact fun e => own_two h.a h.g mc_ne.2.2.2.2.1 _ x hA hx e.symm
 ·rcases List.mem_or_eq_of_mem_set hy with hy | rfl
  ·exact h.wfc y hy
  ·exact hx
theorem Mx.slotAt {w : World} {base bm : Nat} {m : Mc} {A B R G : Option Addr} {c d e f p : Nat} (h : Mx w base bm m A c B d R e G f) (hp : p < m.l.length) : ∃ ga x, A = some ⟨ga, 0, none⟩ ∧ m.l[p]? = some x ∧ ga < w.heap.size ∧ base ≤ ga ∧ w.cell? ⟨ga, p * 3, none⟩ = some (.int .i64 x.kind) ∧ w.cell? ⟨ga, p * 3 + 1, none⟩ = some (.string x.name) ∧ w.cell? ⟨ga, p * 3 + 2, none⟩ = some (.int .i64 x.n) ∧ (∀ j, w.frozen? ⟨ga, j, none⟩ = false) ∧ m.l.length ≤ c ∧ c ≤ 9223372036854775807 := by
 obtain ⟨ga, hA⟩ : ∃ ga, A = some ⟨ga, 0, none⟩ := by
  obtain ⟨g, cap', hv, _⟩ := h.a.form (by omega)
  injection hv with hv
  exact ⟨g, hv⟩
 obtain ⟨x, hx⟩ : ∃ x, m.l[p]? = some x := ⟨_, List.getElem?_eq_getElem hp⟩
 obtain ⟨b, off, h1, h2, _, h3, h4, h5⟩ := h.isC.at_ hx
 rw [hA] at h1
 injection h1 with h1
 injection h1 with f1 f2 f3
 subst f1 f2
 have h6 := h.isC.sl.hmax
 unfold maxLen at h6
 have ha := h.a
 rw [hA] at ha
 simp only [Nat.zero_add] at h3 h4 h5
 exact ⟨ga, x, hA, hx, h2, (Own0.lt h.a _ hA).1, h3, h4, h5, fun j => ha.frozenAt j, h.isC.sl.hcap, h6⟩
theorem set3a {w : World} {g ga j : Nat} {x y z : Value} (h : g ≠ ga) : (((w.setCell ⟨ga, j, none⟩ x).setCell ⟨ga, j + 1, none⟩ y).setCell ⟨ga, j + 2, none⟩ z).heap[g]? = w.heap[g]? := by
 rw [set_other h, set_other h, set_other h]
theorem MKept.slot {w w' : World} {base bm n k size ga j : Nat} {t : TypeId} {X : Option Addr} {xs : List Value} {x y z : Value} (h : MKept w w' bm) (ho : w'.ownsRow base t size (.slice X n k) n xs) (hX : X = some ⟨ga, 0, none⟩) (ht : t = 90 ∨ t = 3 ∨ t = 64) : MKept w (((w'.setCell ⟨ga, j, none⟩ x).setCell ⟨ga, j + 1, none⟩ y).setCell ⟨ga, j + 2, none⟩ z) bm :=
 h.trans ⟨by simp, fun g cs t' n1 n2 n3 n4 hx => by
  have := own_ne ho hx (by intro cur he; injection he with f1 f2 f3; rcases ht with h | h | h <;> rw [h] at f2 <;> contradiction) _ hX
  simp only at this
  have hg : g ≠ ga := fun e => this e.symm
  rw [set_other hg, set_other hg, set_other hg]
  exact hx⟩
set_option maxRecDepth 100000 in
set_option maxHeartbeats 4000000 in
theorem kSetInt_any (base bm : Nat) (m : Mc) (i : In) (w : World) (h : Mm w base bm m) (hm : McOk m) (hnl : m.next < (m.l.length : Int)) (hn : -2147483647 ≤ i.n ∧ i.n ≤ 2147483647) (hb0 : base ≤ w.heap.size) :
  Calls Tryd.prog 160 #[.pointer (some ⟨bm, 0, none⟩), i.val] w (RetS w base bm (.ok (m.write ⟨2, emp, i.n⟩))) := by
 obtain ⟨A, c, B, d, R, e, G, f, hM⟩ := h
 obtain ⟨hn1, hn2⟩ := hm.nx
 obtain ⟨hl1, hl2⟩ := hm.ok.tr_len11
 rcases m with ⟨l, tr, r, regs, next, goals⟩
 simp only at hn1 hn2 hl1 hl2 hnl
 obtain ⟨p, rfl⟩ : ∃ p : Nat, next = (p : Int) := ⟨next.toNat, by omega⟩
 have HM := Lib.hid hM
 have hlo := hM.lo
 have hlt := hM.lt
 clear hM
 unfold In.val
 have hn5 : (p : Int) ≤ 5000 := by omega
 have hpl : p < l.length := by omega
 have hwf : (⟨2, emp, i.n⟩ : C).wf := ⟨by unfold i64; simp, by unfold i64; simp only; omega, Nat.zero_le _⟩
 have Hwf := Lib.hid hwf
 unfold Mc.write
 simp only [Int.toNat_natCast]
 clear hm hn hwf
 go_enter Tryd.func160, Tryd.ntmps160
 go_upto_region 1 with fail
 refine wp_world' (Φ := fun X => BxK w X base bm (⟨l, tr, r, regs, (p : Int), goals⟩ : Mc) A c B d R e G f _ _ _ _ _ _) (BxK.mk' HM.out) ?_
 intro X hBx
 have hne : w.heap.size ≠ bm := by omega
 have hbx := hBx.drew
 obtain ⟨z0, z1, z2, z3, z4, z5, zl⟩ := open6 hbx.box
 obtain ⟨ga, xo, hA, hxo, hga, hgb, k0, k1, k2, kf, hcap, hmax⟩ := hbx.mx.slotAt (p := p) hpl
 obtain ⟨y0, y1, y2, y3, y4, y5, yl⟩ := open6 hbx.mx.blk
 rw [hA] at y0
 have HA := Lib.hid hA
 simp only at hcap
 refine wp_region_held_drew (S := fun w' => w'.cell? ⟨w.heap.size, 4, none⟩ = some (.int .i64 i.n) ∧ w'.cell? ⟨bm, 0, none⟩ = some (.slice (some ⟨ga, 0, none⟩) l.length c)) (by kernel_rfl) ?gs ?gr
 case gs => exact ⟨z4, y0⟩
 case gr =>
  intro hHeld
  have HBx := Lib.hid hbx
  clear hBx hbx z0 z1 z2 z3 z4 z5 zl y0 y1 y2 y3 y4 y5 yl k0 k1 k2 kf hA hxo xo
  generalize X.drew = V at *
  have hbV : base ≤ V.heap.size := by have := HBx.out.low.size; omega
  refine stepH 0 hHeld ?_
  refine stepH 1 hHeld ?_
  refine stepH 2 hHeld ?_
  refine stepH 3 hHeld ?_
  refine stepH 4 hHeld ?_
  refine stepH 5 hHeld ?_
  refine stepH 7 hHeld ?_
  refine stepH 8 hHeld ?_
  refine stepH 9 hHeld ?_
  refine oneH 6 (fun K hK => ?_)
  go_simp
  go_at_call 136
  refine (kPass_any base bm (⟨l, tr, r, regs, (p : Int), goals⟩ : Mc) V ⟨_, _, _, _, _, _, _, _, HBx.out.mx⟩ hn1 hn5).mono ?_
  rintro e1 w1 ⟨rfl, rfl⟩
  have HM1 := Lib.hid (show Mx (V.setCell ⟨bm, 4, none⟩ (.int .i64 ((p : Int) + 1))) base bm ⟨l, tr, r, regs, (p : Int) + 1, goals⟩ A c B d R e G f from HBx.out.mx.next ((p : Int) + 1))
  have Hbox1 := Lib.hid ((set_other (b := bm) (k := 4) hne (.int .i64 ((p : Int) + 1))).trans HBx.out.box)
  have hy1 : (V.setCell ⟨bm, 4, none⟩ (.int .i64 ((p : Int) + 1))).cell? ⟨bm, 0, none⟩ = some (.slice A l.length c) := (open6 HM1.out.blk).1
  rw [HA.out] at hy1
  have HbX1 := Lib.hid ((HBx.out.low.mono hb0).setCell (p := ⟨bm, 4, none⟩) hlo (.int .i64 ((p : Int) + 1)))
  have HkX1 := Lib.hid ((MKept.below (bm := bm) HBx.out.low).trans (MKept.set V bm 4 (.int .i64 ((p : Int) + 1))))
  have hb1 : base ≤ (V.setCell ⟨bm, 4, none⟩ (.int .i64 ((p : Int) + 1))).heap.size := by simpa using hbV
  have hgaW : ga < (V.setCell ⟨bm, 4, none⟩ (.int .i64 ((p : Int) + 1))).heap.size := by simpa using hga
  try go_simp
  have hHeld8 : (fun w' : World => w'.cell? ⟨w.heap.size, 4, none⟩ = some (.int .i64 i.n) ∧ w'.cell? ⟨bm, 0, none⟩ = some (.slice (some ⟨ga, 0, none⟩) l.length c)) (V.setCell ⟨bm, 4, none⟩ (.int .i64 ((p : Int) + 1))) := ⟨cells_of Hbox1.out 4, hy1⟩
  refine hK _ _ hHeld8 ?_
  clear hK K hHeld
  have hHeld := hHeld8
  clear hHeld8
  try simp only [Act.put, sA, sZ, sS]
  generalize V.setCell ⟨bm, 4, none⟩ (.int .i64 ((p : Int) + 1)) = W at *
  obtain ⟨ga2, xo, hA2, hxo, _, _, k0, k1, k2, kf, _, _⟩ := HM1.out.slotAt (p := p) hpl
  rw [HA.out] at hA2
  injection hA2 with hA2
  injection hA2 with f1 f2 f3
  subst f1
  have kf0 := kf (p * 3)
  have kf1 := kf (p * 3 + 1)
  have kf2 := kf (p * 3 + 2)
  clear kf f2 f3 hxo
  have HS := Lib.hid (show Mx (((W.setCell ⟨ga, p * 3, none⟩ (.int .i64 2)).setCell ⟨ga, p * 3 + 1, none⟩ (.string emp)).setCell ⟨ga, p * 3 + 2, none⟩ (.int .i64 i.n)) base bm ⟨l.set p ⟨2, emp, i.n⟩, tr, r, regs, (p : Int) + 1, goals⟩ A c B d R e G f from HM1.out.slotA (x := ⟨2, emp, i.n⟩) HA.out (p := p) hpl Hwf.out)
  have HbS := Lib.hid (((HbX1.out.setCell (p := ⟨ga, p * 3, none⟩) hgb (.int .i64 2)).setCell (p := ⟨ga, p * 3 + 1, none⟩) hgb (.string emp)).setCell (p := ⟨ga, p * 3 + 2, none⟩) hgb (.int .i64 i.n))
  have HkS := Lib.hid (HkX1.out.slot (j := p * 3) (x := .int .i64 2) (y := .string emp) (z := .int .i64 i.n) HM1.out.a HA.out (.inl rfl))
  refine stepH 10 hHeld ?_
  refine oneH 11 (fun K hK => ?_)
  go_simp
  try rw [show (⟨#[]⟩ : ByteArray) = emp from rfl]
  have hne2 : w.heap.size ≠ ga := fun e => by
   have h1 := own_ne HM1.out.a Hbox1.out (by intro cur he; injection he with f1 f2 f3; exact absurd f2 (by decide)) _ HA.out
   exact h1 e.symm
  have hne3 : bm ≠ ga := fun e => HM1.out.na _ HA.out e.symm
  have hF0 := cells_of ((set3a (w := W) (x := .int .i64 2) (y := .string emp) (z := .int .i64 i.n) (j := p * 3) hne2).trans Hbox1.out) 4
  have hF1 := cells_of ((set3a (w := W) (x := .int .i64 2) (y := .string emp) (z := .int .i64 i.n) (j := p * 3) hne3).trans HM1.out.blk) 0
  simp only [HA.out] at hF1
  have hHeld8 : (fun w' : World => w'.cell? ⟨w.heap.size, 4, none⟩ = some (.int .i64 i.n) ∧ w'.cell? ⟨bm, 0, none⟩ = some (.slice (some ⟨ga, 0, none⟩) l.length c)) (((W.setCell ⟨ga, p * 3, none⟩ (.int .i64 2)).setCell ⟨ga, p * 3 + 1, none⟩ (.string emp)).setCell ⟨ga, p * 3 + 2, none⟩ (.int .i64 i.n)) := ⟨hF0, hF1⟩
  refine hK _ _ hHeld8 ?_
  clear hK K hHeld
  have hHeld := hHeld8
  clear hHeld8
  try simp only [Act.put, sA, sZ, sS]
  clear hF0 hF1 k0 k1 k2 kf0 kf1 kf2
  generalize (((W.setCell ⟨ga, p * 3, none⟩ (.int .i64 2)).setCell ⟨ga, p * 3 + 1, none⟩ (.string emp)).setCell ⟨ga, p * 3 + 2, none⟩ (.int .i64 i.n)) = F at *
  refine wpAnyH_done (by kernel_rfl) ?_ _
  go_wp2
  go_ret
  exact ⟨rfl, ⟨_, _, _, _, _, _, _, _, HS.out⟩, HbS.out, HkS.out⟩
end Go.Proofs.YtgipiplklaeplaaDoor
