/- Texts of this proof that belong together: words of memory, plain laws, walks. -/
import Derived.Deep.CutBlock
import Derived.Test.YtgipiplklaeplaaDoorB02
import Derived.Test.YtgipiplklaeplaaDoorB04
import Derived.Test.YtgipiplklaeplaaDoorB09
set_option linter.unusedVariables false
set_option linter.unusedSimpArgs false
namespace Go.Proofs.YtgipiplklaeplaaDoor
open Go.RowKit
theorem infoS : (Tryd.prog.info? 90).map (fun i => (i.zero, i.size, i.bytes)) = some (some (.agg #[.int .i64 0, .string ⟨#[]⟩, .int .i64 0]), 3, 32) := by kernel_rfl
theorem one3 (k n : Int) (s : ByteArray) : ∀ u ∈ [Value.int .i64 k, Value.string s, Value.int .i64 n], u.oneCell' = true := by
 intro u hu
 simp at hu
 rcases hu with rfl | rfl | rfl <;> rfl
theorem wfS {k n : Int} {s : ByteArray} (h1 : i64 k) (h2 : i64 n) (h3 : s.size ≤ maxLen) : (⟨k, s, n⟩ : C).wf := ⟨h1, h2, h3⟩
theorem i64_4 : i64 4 := ⟨by decide, by decide⟩
theorem i64_3 : i64 3 := ⟨by decide, by decide⟩
theorem i64_1 : i64 1 := ⟨by decide, by decide⟩
theorem i64_2 : i64 2 := ⟨by decide, by decide⟩
theorem empty_max : (⟨#[]⟩ : ByteArray).size ≤ maxLen := by decide
theorem Ly.free_typ {w : World} {base bl g : Nat} {T t : TypeId} {l : List C} {a : List Int} {cs : Array Value} (h : Ly w base bl T l a) (hg : w.heap[g]? = some (.cells cs t (0, 0))) (h1 : t ≠ 90) (h2 : t ≠ 3) (hne : g ≠ bl) : LFree w bl g := by
 obtain ⟨A, n, c, B, m, d, k1, k2, k3, k4⟩ := h.has
 refine ⟨block_lt hg, hne, ?_, ?_⟩
 ·rw [lyB_0 k2]
  intro he
  obtain ⟨a', ha', hg', hc'⟩ := vblkZ_some he
  exact own0_ne k3 hg (by intro cur he; injection he with e1 e2 e3; exact h1 e2) hc' a' ha' hg'
 ·rw [lyB_1 k2]
  intro he
  obtain ⟨a', ha', hg', hc'⟩ := vblkZ_some he
  exact own0_ne k4 hg (by intro cur he; injection he with e1 e2 e3; exact h2 e2) hc' a' ha' hg'
theorem IsC.tm0 {w : World} {A : Option Addr} {n cap : Nat} {T : Tm} (h : IsC w A n cap T.flat) :
  ∃ b off, A = some ⟨b, off, none⟩ ∧ b < w.heap.size ∧ w.cell? ⟨b, off, none⟩ = some (.int .i64 T.c0.kind) ∧ w.cell? ⟨b, off + 1, none⟩ = some (.string T.c0.name) ∧ w.cell? ⟨b, off + 2, none⟩ = some (.int .i64 T.c0.n) ∧ 0 < n := by
 obtain ⟨b, off, hA, hb, _, h0, h1, h2⟩ := h.at_ (flat_get0 T)
 simp at h0 h1 h2
 have hl := h.len
 rw [flat_size] at hl
 have := T.size_pos
 exact ⟨b, off, hA, hb, h0, h1, h2, by omega⟩
theorem Ly.grown {Y w' : World} {base bl : Nat} {T : TypeId} {l : List C} {a : List Int} {A B A' : Option Addr} {n c m d cap' : Nat} {x : C} (o : Obj) (hTs : T ≠ 90) (hTi : T ≠ 3)
  (hL : Ly Y base bl T l a) (h2 : Y.heap[bl]? = some (.cells #[.slice A n c, .slice B m d] T (0, 0))) (h3 : Own0 Y base 90 3 (.slice A n c) n (flatC l)) (h4 : Own0 Y base 3 1 (.slice B m d) m (a.map (Value.int .i64)))
  (hx : x.wf) (hown : w'.ownsRow base 90 3 (.slice A' (n + 1) cap') (n + 1) (flatC l ++ x.flat)) (hap : ApartZ (Y.alloc o) w' A c A') (hb : Below base (Y.alloc o) w') (hbase : base ≤ Y.heap.size) :
  Ly (w'.setCell ⟨bl, 0, none⟩ (.slice A' (n + 1) cap')) base bl T (l ++ [x]) a ∧ Below base Y (w'.setCell ⟨bl, 0, none⟩ (.slice A' (n + 1) cap')) ∧ LKept Y (w'.setCell ⟨bl, 0, none⟩ (.slice A' (n + 1) cap')) bl := by
 have hal : Below Y.heap.size Y (Y.alloc o) := (Below.refl _ _).alloc (Nat.le_refl _) _
 have hlt := hL.lt
 obtain ⟨q1, q2, q3⟩ := Ly.grow0 hTs hTi tLayer_ne.2.2 ((alloc_past hlt.2).trans h2) hlt.1 (h3.below hal) (h4.below hal) hL.wfc hL.wfi hx hown hap hb
 exact ⟨q1, (hal.mono hbase).trans q2, (LKept.below hal hlt.2).trans q3⟩
theorem Ly.set1 {w : World} {base bl : Nat} {T : TypeId} {l : List C} {a : List Int} {A : Option Addr} {n c m d gb v : Nat} {x : Int} (hTs : T ≠ 90) (hTi : T ≠ 3)
  (hL : Ly w base bl T l a) (h2 : w.heap[bl]? = some (.cells #[.slice A n c, .slice (some ⟨gb, 0, none⟩) m d] T (0, 0))) (h3 : Own0 w base 90 3 (.slice A n c) n (flatC l)) (h4 : Own0 w base 3 1 (.slice (some ⟨gb, 0, none⟩) m d) m (a.map (Value.int .i64)))
  (hv : v < a.length) (hx : i64 x) : Ly (w.setCell ⟨gb, v, none⟩ (.int .i64 x)) base bl T l (a.set v x) ∧ Below base w (w.setCell ⟨gb, v, none⟩ (.int .i64 x)) ∧ LKept w (w.setCell ⟨gb, v, none⟩ (.int .i64 x)) bl := by
 have hml := own0_len h4
 simp at hml
 obtain ⟨s1, s2, s3⟩ := own0_sets (i := v) h4 (by omega) (.int .i64 x)
 have hd : 0 < d := by have := (h4.sl (by omega)).hcap; omega
 have nB : gb ≠ bl := fun e => own0_ne h4 h2 (by intro cur he; injection he with e1 e2 e3; exact hTi e2) hd _ rfl e
 have hnew : (w.setCell ⟨gb, v, none⟩ (.int .i64 x)).heap[bl]? = some (.cells #[.slice A n c, .slice (some ⟨gb, 0, none⟩) m d] T (0, 0)) := (set_other (fun e => nB e.symm) _).trans h2
 have nA : 0 < c → ∀ a, A = some a → a.block ≠ gb := by
  intro hc a ha he
  obtain ⟨_, cur, g1⟩ := own0_typ h4 hd _ rfl
  obtain ⟨_, cur', g2⟩ := own0_typ h3 hc a ha
  rw [he] at g2
  simp only at g1
  rw [g1] at g2
  injection g2 with g2
  injection g2 with e1 e2 e3
  exact tLayer_ne.2.2 e2.symm
 have hset : (a.map (Value.int .i64)).set v (.int .i64 x) = (a.set v x).map (Value.int .i64) := by rw [List.map_set]
 rw [hset] at s1
 refine ⟨⟨⟨A, n, c, some ⟨gb, 0, none⟩, m, d, hL.lt.1, hnew, own0_at h3 (fun hc a ha => set_other (nA hc a ha) _), s1⟩, hL.wfc, fun y hy => ?_⟩, Below.setCell (p := ⟨gb, v, none⟩) (Below.refl base w) s3 _, ⟨fun g hg => ?_⟩⟩
 ·rcases List.mem_or_eq_of_mem_set hy with h | h
  ·exact hL.wfi y h
  ·rw [h]; exact hx
 ·have hg0 := hg.c0
  have hg1 := hg.c1
  rw [lyB_0 h2] at hg0
  rw [lyB_1 h2] at hg1
  have hgg : g ≠ gb := fun e => vblkZ_ne hg1 hd _ rfl e.symm
  exact ⟨set_other hgg _, ⟨by simpa using hg.lt, hg.m, by rw [lyB_0 hnew]; exact hg0, by rw [lyB_1 hnew]; exact hg1⟩⟩
set_option maxRecDepth 100000 in
set_option maxHeartbeats 4000000 in
theorem lslot_i (W : World) (base bl : Nat) (l : List C) (a : List Int) (T : Tm) (A : Option Addr) (n cap : Nat) (w : World) (hW : IsC W A n cap T.flat) (hbW : Below W.heap.size W w) (hWb : W.heap.size ≤ base)
  (h : Ly w base bl 136 l a) (hT : T.ok = true) (hl : l.length ≤ 100000) (ha : a.length ≤ 100000) (hb0 : base ≤ w.heap.size) (q : Nat) :
  T.c0.kind = 2 → Calls Tryd.prog 78 #[.pointer (some ⟨bl, 0, none⟩), .slice A n cap] w (RetLy w base bl 136 (l ++ [(slotA T l.length 0 a).1]) (slotA T l.length 0 a).2 (.tuple #[])) := by
 intro hk2
 obtain ⟨b0, off0, rfl, hb00, e0, e1, e2, hn0⟩ := hW.tm0
 obtain ⟨hcW, _⟩ := bcell hbW
 have e0' := (hcW b0 _ hb00).trans e0
 have e1' := (hcW b0 _ hb00).trans e1
 have e2' := (hcW b0 _ hb00).trans e2
 have hbw : b0 < w.heap.size := Nat.lt_of_lt_of_le hb00 hbW.size
 have hn0' : (0 : Int) < (n : Int) := by omega
 have hlt := h.lt
 have HL := Lib.hid h
 obtain ⟨A1, n1, c1, B1, m1, d1, g1, g2, g3, g4⟩ := h.has
 have hlen := own0_len g3
 rw [flatC_len] at hlen
 have hn1 : n1 ≤ 100000 := by omega
 have Hlen : Hid (l.length = n1) := Lib.hid (by omega)
 obtain ⟨y0, y1, yl⟩ := open2 g2
 have hc1 := (g3.sl (by omega)).hcap
 have hc2 := (g3.sl (by omega)).hmax
 unfold maxLen at hc2
 have hal : Below w.heap.size w (w.alloc (.cells #[.int .i64 T.c0.kind, .string T.c0.name, .int .i64 T.c0.n] 66)) := (Below.refl _ _).alloc (Nat.le_refl _) _
 clear hcW e0 e1 e2 h g2 g3 g4 hlen
 cases T with
 | v x => simp [Tm.c0] at hk2
 | f s us => simp [Tm.c0] at hk2
 | i k =>
  simp only [Tm.c0] at e0' e1' e2' hal
  have hk64 : i64 k := by simp [Tm.ok] at hT; exact ⟨by omega, by omega⟩
  clear hk2
  go_enter Tryd.func78, Tryd.ntmps78
  go_upto_region 2 with fail
  refine wp_world' (Φ := fun X => Below w.heap.size w X ∧ X.heap[w.heap.size]? = some (.cells #[.int .i64 2, .string ⟨#[]⟩, .int .i64 k] 66 (0, 0))) ⟨hal, alloc_at rfl⟩ ?_
  rintro X ⟨hbX, x0⟩
  have HbX := Lib.hid hbX
  have hLX := HL.out.below hbX
  have HLX := Lib.hid hLX
  obtain ⟨gc, hgc⟩ : ∃ gc, gc = w.heap.size := ⟨_, rfl⟩
  rw [← hgc] at x0 ⊢
  have HX0 : Hid (X.heap[gc]? = _) := Lib.hid x0
  obtain ⟨z0, z1, z2, zl⟩ := open3 x0
  have y0X := (hbX.cell (p := ⟨bl, 0, none⟩) yl).trans y0
  have ylX : bl < X.heap.size := Nat.lt_of_lt_of_le yl hbX.size
  have hbX0 : base ≤ X.heap.size := Nat.le_trans hb0 hbX.size
  clear y0 y1 hbX hLX x0 e0' e1' e2' hal hgc
  go_upto_region 8 with fail
  refine region_but 12 (fun w' => w'.cell? ⟨bl, 0, none⟩ = some (.slice A1 n1 c1) ∧ w'.cell? ⟨gc, 2, none⟩ = some (.int .i64 k)) (by kernel_rfl) ?_
  have hHeld : (fun w' : World => w'.cell? ⟨bl, 0, none⟩ = some (.slice A1 n1 c1) ∧ w'.cell? ⟨gc, 2, none⟩ = some (.int .i64 k)) X.drew := by simp [*]
  have hLd := HLX.out.below (show Below X.heap.size X X.drew from (Below.refl _ _).drew)
  have hbd : Below w.heap.size w X.drew := HbX.out.drew
  have HLd := Lib.hid hLd
  have Hbd := Lib.hid hbd
  have hxd : Hid (X.drew.heap[gc]? = _) := Lib.hid HX0.out
  have yld : bl < X.drew.heap.size := ylX
  have hbd0 : base ≤ X.drew.heap.size := hbX0
  clear hLd hbd y0X z0 z1 z2 zl ylX HLX HbX hbX0 HX0
  generalize X.drew = Y at *
  refine stepB 0 hHeld ?_
  refine stepB 1 hHeld ?_
  refine stepB 2 hHeld ?_
  refine stepB 3 hHeld ?_
  refine stepB 4 hHeld ?_
  refine stepB 5 hHeld ?_
  refine stepB 6 hHeld ?_
  refine stepB 7 hHeld ?_
  refine oneB 8 (fun K hK => ?_)
  go_simp
  have hHeld8 : (fun w' : World => w'.cell? ⟨bl, 0, none⟩ = some (.slice A1 n1 c1) ∧ w'.cell? ⟨gc, 2, none⟩ = some (.int .i64 k)) (Y.alloc (.cells #[.int .i64 2, .string ⟨#[]⟩, .int .i64 k] 90)) := by simp [World.cell?_alloc_some, *]
  refine hK _ _ (.inr hHeld8) ?_
  clear hK K hHeld
  have hHeld := hHeld8
  clear hHeld8
  try simp only [Act.put, sA, sZ, sS]
  have hal2 : Below Y.heap.size Y (Y.alloc (.cells #[.int .i64 2, .string ⟨#[]⟩, .int .i64 k] 90)) := (Below.refl _ _).alloc (Nat.le_refl _) _
  obtain ⟨A2, n2, c2, B2, m2, d2, p1, p2, p3, p4⟩ := HLd.out.has
  obtain ⟨r0, r1, rl⟩ := open2 p2
  have r0' := (hHeld.1.symm.trans ((hal2.cell (p := ⟨bl, 0, none⟩) rl).trans r0))
  injection r0' with r0'
  injection r0' with i1 i2 i3
  subst i1; subst i2; subst i3
  refine oneB 9 (fun K hK => ?_)
  refine step_append_z (by rfl) (.tmp 49) (.tmp 53) 41 (by rfl) base 90 Tryd.underlying41 infoS (by rfl) (by omega) (by rfl) (xs := flatC l) ?_ (by rfl) (news := [.int .i64 2, .string ⟨#[]⟩, .int .i64 k]) ?_ (one3 _ _ _) (by omega) (by omega) (by omega) (by simp; omega) ?_
  focus (exact p3.below hal2)
  focus (exact Sl.lit Y _ [_, _, _] 90 3 1 rfl rfl (by simp [maxLen]))
  intro A9 d9 w9 hown9 hb9 hap9
  obtain ⟨q1, q2, q3⟩ := Ly.grown (.cells #[.int .i64 2, .string ⟨#[]⟩, .int .i64 k] 90) tLayer_ne.1 tLayer_ne.2.1 HLd.out p2 p3 p4 (x := ⟨2, ⟨#[]⟩, k⟩) (wfS i64_2 hk64 empty_max) hown9 hap9 hb9 hbd0
  have Q1 := Lib.hid q1
  have Q2 := Lib.hid q2
  have Q3 := Lib.hid q3
  have x9 := (hap9.old bl (by simp; omega) (own0_ne (p3.below hal2) ((alloc_past rl).trans p2) (by intro cur he; injection he with e1 e2 e3; exact tLayer_ne.1 e2))).trans ((alloc_past rl).trans p2)
  have xg := (hap9.old gc (by have := block_lt hxd.out; simp; omega) (own0_ne (p3.below hal2) ((alloc_past (block_lt hxd.out)).trans hxd.out) (by intro cur he; simp at he))).trans ((alloc_past (block_lt hxd.out)).trans hxd.out)
  obtain ⟨s0, s1, sl⟩ := open2 x9
  obtain ⟨t0, t1, t2, tl⟩ := open3 xg
  have sf := frozen_of x9 0
  clear q1 q2 q3 x9 xg hown9 hap9 hb9 t0 t1 p2 p3 p4 r0 r1
  have hHeld8 : (fun w' : World => w'.cell? ⟨bl, 0, none⟩ = some (.slice A1 n1 c1) ∧ w'.cell? ⟨gc, 2, none⟩ = some (.int .i64 k)) w9 := ⟨s0, t2⟩
  refine hK _ _ (.inr hHeld8) ?_
  clear hK K hHeld
  have hHeld := hHeld8
  clear hHeld8
  try simp only [Act.put, sA, sZ, sS]
  refine oneB 10 (fun K hK => ?_)
  go_simp
  have hHeld8 : (fun w' : World => w'.cell? ⟨bl, 0, none⟩ = some (.slice A1 n1 c1) ∧ w'.cell? ⟨gc, 2, none⟩ = some (.int .i64 k)) w9 := ⟨s0, t2⟩
  refine hK _ _ (.inr hHeld8) ?_
  clear hK K hHeld
  have hHeld := hHeld8
  clear hHeld8
  try simp only [Act.put, sA, sZ, sS]
  refine oneB 11 (fun K hK => ?_)
  go_simp
  have hHeld8 : (fun w' : World => w'.cell? ⟨bl, 0, none⟩ = some (.slice A1 n1 c1) ∧ w'.cell? ⟨gc, 2, none⟩ = some (.int .i64 k)) w9 := ⟨s0, t2⟩
  refine hK _ _ (.inr hHeld8) ?_
  clear hK K hHeld
  have hHeld := hHeld8
  clear hHeld8
  try simp only [Act.put, sA, sZ, sS]
  refine oneB 12 (fun K hK => ?_)
  go_simp
  refine hK _ _ (.inl rfl) ?_
  clear hK K hHeld
  try simp only [Act.put, List.setIfInBounds_toArray, List.set_cons_zero, List.set_cons_succ]
  refine but_done (by kernel_rfl) ?_ _
  go_wp2
  go_end0
  exact ⟨rfl, Q1.out, (Hbd.out.mono hb0).trans Q2.out, (LKept.below Hbd.out hlt.2).trans Q3.out⟩
set_option maxRecDepth 100000 in
set_option maxHeartbeats 4000000 in
theorem lslot_f (W : World) (base bl : Nat) (l : List C) (a : List Int) (T : Tm) (A : Option Addr) (n cap : Nat) (w : World) (hW : IsC W A n cap T.flat) (hbW : Below W.heap.size W w) (hWb : W.heap.size ≤ base)
  (h : Ly w base bl 136 l a) (hT : T.ok = true) (hl : l.length ≤ 100000) (ha : a.length ≤ 100000) (hb0 : base ≤ w.heap.size) (q : Nat) :
  T.c0.kind = 3 → Calls Tryd.prog 78 #[.pointer (some ⟨bl, 0, none⟩), .slice A n cap] w (RetLy w base bl 136 (l ++ [(slotA T l.length 0 a).1]) (slotA T l.length 0 a).2 (.tuple #[])) := by
 intro hk3
 obtain ⟨b0, off0, rfl, hb00, e0, e1, e2, hn0⟩ := hW.tm0
 obtain ⟨hcW, _⟩ := bcell hbW
 have e0' := (hcW b0 _ hb00).trans e0
 have e1' := (hcW b0 _ hb00).trans e1
 have e2' := (hcW b0 _ hb00).trans e2
 have hbw : b0 < w.heap.size := Nat.lt_of_lt_of_le hb00 hbW.size
 have hn0' : (0 : Int) < (n : Int) := by omega
 have hlt := h.lt
 have HL := Lib.hid h
 obtain ⟨A1, n1, c1, B1, m1, d1, g1, g2, g3, g4⟩ := h.has
 have hlen := own0_len g3
 rw [flatC_len] at hlen
 have hn1 : n1 ≤ 100000 := by omega
 have Hlen : Hid (l.length = n1) := Lib.hid (by omega)
 obtain ⟨y0, y1, yl⟩ := open2 g2
 have hc1 := (g3.sl (by omega)).hcap
 have hc2 := (g3.sl (by omega)).hmax
 unfold maxLen at hc2
 have hal : Below w.heap.size w (w.alloc (.cells #[.int .i64 T.c0.kind, .string T.c0.name, .int .i64 T.c0.n] 66)) := (Below.refl _ _).alloc (Nat.le_refl _) _
 clear hcW e0 e1 e2 h g2 g3 g4 hlen
 cases T with
 | v x => simp [Tm.c0] at hk3
 | i k => simp [Tm.c0] at hk3
 | f s us =>
  simp only [Tm.c0] at e0' e1' e2' hal
  clear hk3
  go_enter Tryd.func78, Tryd.ntmps78
  go_upto_region 2 with fail
  refine wp_world' (Φ := fun X => Below w.heap.size w X ∧ X.heap[w.heap.size]? = some (.cells #[.int .i64 3, .string s, .int .i64 us.length] 66 (0, 0))) ⟨hal, alloc_at rfl⟩ ?_
  rintro X ⟨hbX, x0⟩
  have HbX := Lib.hid hbX
  have hLX := HL.out.below hbX
  have HLX := Lib.hid hLX
  obtain ⟨gc, hgc⟩ : ∃ gc, gc = w.heap.size := ⟨_, rfl⟩
  rw [← hgc] at x0 ⊢
  obtain ⟨z0, z1, z2, zl⟩ := open3 x0
  have hbX0 : base ≤ X.heap.size := Nat.le_trans hb0 hbX.size
  clear y0 y1 hbX hLX x0 e0' e1' e2' hal hgc yl hc1 hc2
  obtain ⟨A2, n2, c2, B2, m2, d2, p1, p2, p3, p4⟩ := HLX.out.has
  have hlen2 := own0_len p3
  rw [flatC_len] at hlen2
  have hn2 : n2 ≤ 100000 := by omega
  obtain ⟨r0, r1, rl⟩ := open2 p2
  have rf := frozen_of p2 0
  have hc1 := (p3.sl (by omega)).hcap
  have hc2 := (p3.sl (by omega)).hmax
  unfold maxLen at hc2
  have hal2 : Below X.heap.size X (X.alloc (.cells #[.int .i64 3, .string ⟨#[]⟩, .int .i64 0] 90)) := (Below.refl _ _).alloc (Nat.le_refl _) _
  have P2 := Lib.hid p2
  have P3 := Lib.hid p3
  have P4 := Lib.hid p4
  clear p2 p3 p4 hlen2
  go_wp2_with (first
   | (at_builtin; go_must (refine wpList_append_z rfl (.tmp 63) (.tmp 65) 41 rfl base 90 Tryd.underlying41 infoS rfl (by omega) rfl (xs := flatC l) (P3.out.below hal2) rfl (news := [.int .i64 3, .string ⟨#[]⟩, .int .i64 0]) (Sl.lit X _ [_, _, _] 90 3 1 rfl rfl (by simp [maxLen])) (one3 _ _ _) (by omega) (by omega) (by omega) (by simp; omega) ?_); intro A9 d9 w9 hown9 hb9 hap9; obtain ⟨q1, q2, q3⟩ := Ly.grown (.cells #[.int .i64 3, .string ⟨#[]⟩, .int .i64 0] 90) tLayer_ne.1 tLayer_ne.2.1 HLX.out P2.out P3.out P4.out (x := ⟨3, ⟨#[]⟩, 0⟩) (wfS i64_3 i64_0' empty_max) hown9 hap9 hb9 hbX0; have Q1 := Lib.hid q1; have Q2 := Lib.hid q2; have Q3 := Lib.hid q3; have x9 := (hap9.old bl (by simp; omega) (own0_ne (P3.out.below hal2) ((alloc_past rl).trans P2.out) (by intro cur he; injection he with e1 e2 e3; exact tLayer_ne.1 e2))).trans ((alloc_past rl).trans P2.out); obtain ⟨s0, s1, sl⟩ := open2 x9; have sf := frozen_of x9 0; clear q1 q2 q3 x9 hown9 hap9 hb9))
  go_end0
  exact ⟨rfl, Q1.out, (HbX.out.mono hb0).trans Q2.out, (LKept.below HbX.out hlt.2).trans Q3.out⟩
end Go.Proofs.YtgipiplklaeplaaDoor
namespace Go.Proofs.YtgipiplklaeplaaDoor
open Go.RowKit
set_option maxRecDepth 100000 in
set_option maxHeartbeats 4000000 in
theorem lslot_v (W : World) (base bl : Nat) (l : List C) (a : List Int) (T : Tm) (A : Option Addr) (n cap : Nat) (w : World) (hW : IsC W A n cap T.flat) (hbW : Below W.heap.size W w) (hWb : W.heap.size ≤ base)
  (h : Ly w base bl 136 l a) (hT : T.ok = true) (hl : l.length ≤ 100000) (ha : a.length ≤ 100000) (hb0 : base ≤ w.heap.size) (q : Nat) :
  T.c0.kind = 1 → Calls Tryd.prog 78 #[.pointer (some ⟨bl, 0, none⟩), .slice A n cap] w (RetLy w base bl 136 (l ++ [(slotA T l.length 0 a).1]) (slotA T l.length 0 a).2 (.tuple #[])) := by
 intro hk1
 obtain ⟨b0, off0, rfl, hb00, e0, e1, e2, hn0⟩ := hW.tm0
 obtain ⟨hcW, _⟩ := bcell hbW
 have e0' := (hcW b0 _ hb00).trans e0
 have e1' := (hcW b0 _ hb00).trans e1
 have e2' := (hcW b0 _ hb00).trans e2
 have hbw : b0 < w.heap.size := Nat.lt_of_lt_of_le hb00 hbW.size
 have hn0' : (0 : Int) < (n : Int) := by omega
 have hlt := h.lt
 have HL := Lib.hid h
 obtain ⟨A1, n1, c1, B1, m1, d1, g1, g2, g3, g4⟩ := h.has
 have hlen := own0_len g3
 rw [flatC_len] at hlen
 have hn1 : n1 ≤ 100000 := by omega
 have Hlen : Hid (l.length = n1) := Lib.hid (by omega)
 obtain ⟨y0, y1, yl⟩ := open2 g2
 have hc1 := (g3.sl (by omega)).hcap
 have hc2 := (g3.sl (by omega)).hmax
 unfold maxLen at hc2
 have hal : Below w.heap.size w (w.alloc (.cells #[.int .i64 T.c0.kind, .string T.c0.name, .int .i64 T.c0.n] 66)) := (Below.refl _ _).alloc (Nat.le_refl _) _
 clear hcW e0 e1 e2 h g2 g3 g4 hlen
 cases T with
 | f s us => simp [Tm.c0] at hk1
 | i k => simp [Tm.c0] at hk1
 | v x =>
  simp [Tm.ok] at hT
  obtain ⟨v, rfl⟩ : ∃ v : Nat, x = v := ⟨x.toNat, by omega⟩
  have hv9 : v ≤ 999 := by omega
  simp only [Tm.c0] at e0' e1' e2' hal
  rw [slotA_v]
  simp only [Int.toNat_natCast]
  have haw : i64 (atA a v) := by
   unfold atA
   cases hav : a[v]? with
   | none => exact ⟨by decide, by decide⟩
   | some y => exact HL.out.wfi y (List.mem_of_getElem? hav)
  have Haw := Lib.hid haw
  by_cases hneg : atA a v < 0
  ·rw [if_pos hneg]
   have hd : decide (atA a v < 0) = true := by simpa using hneg
   have Hneg := Lib.hid hneg
   clear haw
   clear hk1 hT
   go_enter Tryd.func78, Tryd.ntmps78
   go_upto_region 2 with fail
   refine wp_world' (Φ := fun X => Below w.heap.size w X ∧ X.heap.size = w.heap.size + 1 ∧ X.heap[w.heap.size]? = some (.cells #[.int .i64 1, .string ⟨#[]⟩, .int .i64 v] 66 (0, 0))) ⟨hal, by simp, alloc_at rfl⟩ ?_
   rintro X ⟨hbX, hX1, x0⟩
   have HbX := Lib.hid hbX
   have hLX := HL.out.below hbX
   have HLX := Lib.hid hLX
   obtain ⟨gc, hgc⟩ : ∃ gc, gc = w.heap.size := ⟨_, rfl⟩
   rw [← hgc] at x0 hX1 ⊢
   have hgb : gc ≠ bl := by omega
   obtain ⟨z0, z1, z2, zl⟩ := open3 x0
   have HX0 := Lib.hid x0
   have hbX0 : base ≤ X.heap.size := by omega
   have hst := lstands_any base bl l a v X hLX hv9 hbX0 ha
   have Hst := Lib.hid hst
   have hfr := Ly.free_typ hLX x0 (by decide) (by decide) hgb
   have Hfr := Lib.hid hfr
   have hlv := extA_len_le a v
   have Hlv := Lib.hid hlv
   clear y0 y1 hbX hLX x0 e0' e1' e2' hal hgc yl hc1 hc2 hst hfr hlv
   go_upto_region 5 with (go_at_call 77; go_must (refine Hst.out.mono ?_); rintro e w3 ⟨rfl, hL3, hb3, hk3⟩; have HL3 := Lib.hid hL3; obtain ⟨A2, n2, c2, B2, m2, d2, p1, p2, p3, p4⟩ := hL3.has; have hlen2 := own0_len p3; have hlen3 := own0_len p4; rw [flatC_len] at hlen2; simp only [List.length_map, Nat.mul_one] at hlen3; have hn2 : n2 ≤ 100000 := (by omega); obtain ⟨r0, r1, rl⟩ := open2 p2; have rf := frozen_of p2 0; have hc1 := (p3.sl (by omega)).hcap; have hc2 := (p3.sl (by omega)).hmax; unfold maxLen at hc2; have hbZ : base ≤ w3.heap.size := Nat.le_trans hbX0 hb3.size; have hx3 := (hk3.free gc Hfr.out).1.trans HX0.out; obtain ⟨v0, v1, v2, vl⟩ := open3 hx3; have hal2 : ∀ o, Below w3.heap.size w3 (w3.alloc o) := (fun o => (Below.refl _ _).alloc (Nat.le_refl _) _); have P2 := Lib.hid p2; have P3 := Lib.hid p3; have P4 := Lib.hid p4; have Hlen3 := Lib.hid hlen3; clear p2 p3 p4 hlen2 hL3 hx3 hlen3)
   have hvlt := extA_len a v
   obtain ⟨gb, hgbB⟩ : ∃ gb, B2 = some ⟨gb, 0, none⟩ := by
    rcases P4.out with ⟨A', he, h1, h2⟩ | h
    ·have := Hlen3.out; omega
    ·obtain ⟨g, cap', hv', _⟩ := h.form (by have := Hlen3.out; omega)
     injection hv' with hv'
     exact ⟨g, hv'⟩
   subst hgbB
   have hown1 : w3.ownsRow base 3 1 (.slice (some ⟨gb, 0, none⟩) m2 d2) m2 ((extA a v).map (Value.int .i64)) := by
    rcases P4.out with ⟨A', he, h1, h2⟩ | h
    ·have := Hlen3.out; omega
    ·exact h
   have hvm : v < m2 := by have := Hlen3.out; omega
   have hget : ((extA a v).map (Value.int .i64))[v]? = some (.int .i64 (atA a v)) := by rw [List.getElem?_map, extA_get]; rfl
   have hcv := (hown1.cellAt v (by omega)).trans hget
   have hfv := hown1.frozenAt v
   have hgbl := (hown1.lt gb rfl)
   have hn1eq : Hid ((l.length : Int) = (n1 : Int)) := Lib.hid (by have := Hlen.out; omega)
   have hgblt := hgbl.2
   have hgbne : ¬ gb = bl := by
    intro e
    have hd2 : 0 < d2 := by have := (P4.out.sl (by omega)).hcap; omega
    exact own0_ne P4.out P2.out (by intro cur he; injection he with e1 e2 e3; exact tLayer_ne.2.1 e2) hd2 _ rfl e
   have hgbne2 : ¬ gb = gc := by
    intro e
    have hd2 : 0 < d2 := by have := (P4.out.sl (by omega)).hcap; omega
    have hx3 := (hk3.free gc Hfr.out).1.trans HX0.out
    exact own0_ne P4.out hx3 (by intro cur he; simp at he) hd2 _ rfl e
   have hbd3 : Below w3.heap.size w3 w3.drew := (Below.refl _ _).drew
   have hLd := HL3.out.below hbd3
   have p2d : w3.drew.heap[bl]? = some (.cells #[.slice A2 n2 c2, .slice (some ⟨gb, 0, none⟩) m2 d2] 136 (0, 0)) := P2.out
   have p3d := P3.out.below hbd3
   have p4d := P4.out.below hbd3
   obtain ⟨t1, t2, t3⟩ := Ly.set1 (x := (n1 : Int)) tLayer_ne.1 tLayer_ne.2.1 hLd p2d p3d p4d hvlt (by unfold i64; omega)
   have T1 := Lib.hid t1
   have T2 := Lib.hid ((hb3.mono (Nat.le_refl _)).trans ((hbd3.mono hbZ).trans t2))
   have T3 := Lib.hid (hk3.trans ((LKept.below hbd3 rl).trans t3))
   have hcvd : w3.drew.cell? ⟨gb, v, none⟩ = some (.int .i64 (atA a v)) := hcv
   have hfvd : w3.drew.frozen? ⟨gb, v, none⟩ = false := hfv
   have p2s : (w3.drew.setCell ⟨gb, v, none⟩ (.int .i64 (n1 : Int))).heap[bl]? = some (.cells #[.slice A2 n2 c2, .slice (some ⟨gb, 0, none⟩) m2 d2] 136 (0, 0)) := (set_other (fun e => hgbne e.symm) _).trans p2d
   have gcs : (w3.drew.setCell ⟨gb, v, none⟩ (.int .i64 (n1 : Int))).heap[gc]? = some (.cells #[.int .i64 1, .string ⟨#[]⟩, .int .i64 v] 66 (0, 0)) := (set_other (fun e => hgbne2 e.symm) _).trans ((hk3.free gc Hfr.out).1.trans HX0.out)
   have hbZd : base ≤ w3.drew.heap.size := hbZ
   have hgbd : gb < w3.drew.heap.size := hgblt
   have P2s := Lib.hid p2s
   have Gcs := Lib.hid gcs
   clear hown1 hget t1 t2 t3 hgbl hvlt hd p2s gcs p2d p3d p4d hLd
   refine wp_region_held_drew (S := fun w' => w'.cell? ⟨bl, 1, none⟩ = some (.slice (some ⟨gb, 0, none⟩) m2 d2) ∧ w'.cell? ⟨gc, 2, none⟩ = some (.int .i64 (v : Int))) (by kernel_rfl) ?gs ?gr
   case gs => simp [*]
   case gr =>
    intro hHeld
    clear hcv hfv r0 r1 rf v0 v1 v2 vl z0 z1 z2 zl rl hgblt hbd3
    generalize w3.drew = Y at *
    refine stepH 0 hHeld ?_
    refine stepH 1 hHeld ?_
    refine stepH 2 hHeld ?_
    refine stepH 3 hHeld ?_
    refine stepH 4 hHeld ?_
    refine stepH 5 hHeld ?_
    refine stepH 6 hHeld ?_
    refine stepH 7 hHeld ?_
    refine stepH 8 hHeld ?_
    refine stepH 9 hHeld ?_
    refine oneH 10 (fun K hK => ?_)
    go_simp
    obtain ⟨s0, s1, sl⟩ := open2 P2s.out
    obtain ⟨u0, u1, u2, ul⟩ := open3 Gcs.out
    have hHeld8 : (fun w' : World => w'.cell? ⟨bl, 1, none⟩ = some (.slice (some ⟨gb, 0, none⟩) m2 d2) ∧ w'.cell? ⟨gc, 2, none⟩ = some (.int .i64 (v : Int))) (Y.setCell ⟨gb, v, none⟩ (.int .i64 (n1 : Int))) := ⟨s1, u2⟩
    refine hK _ _ hHeld8 ?_
    clear hK K hHeld
    have hHeld := hHeld8
    clear hHeld8
    try simp only [Act.put, sA, sZ, sS]
    refine wpAnyH_done (by kernel_rfl) ?_ _
    have hbS : base ≤ (Y.setCell ⟨gb, v, none⟩ (.int .i64 (n1 : Int))).heap.size := by simpa using hbZd
    clear u0 u1 u2 ul hcvd hfvd
    generalize Y.setCell ⟨gb, v, none⟩ (.int .i64 (n1 : Int)) = Z at *
    clear s0 s1 sl hHeld hbZ hn2 hc1 hc2 hal2 P2 P3 P4 HL3
    obtain ⟨A3, n3, c3, B3, m3, d3, p1', p2', p3', p4'⟩ := T1.out.has
    have hlen3 := own0_len p3'
    rw [flatC_len] at hlen3
    have hn3 : n3 ≤ 100000 := by omega
    obtain ⟨r0, r1, rl⟩ := open2 p2'
    have rf := frozen_of p2' 0
    have hc1 := (p3'.sl (by omega)).hcap
    have hc2 := (p3'.sl (by omega)).hmax
    unfold maxLen at hc2
    have hal2 : ∀ o, Below Z.heap.size Z (Z.alloc o) := fun o => (Below.refl _ _).alloc (Nat.le_refl _) _
    have P2 := Lib.hid p2'
    have P3 := Lib.hid p3'
    have P4 := Lib.hid p4'
    clear p2' p3' p4' hlen3 P2s Gcs
    go_wp2_with (first
     | (at_builtin; go_must (refine wpList_append_z rfl (.tmp 36) (.tmp 39) 41 rfl base 90 Tryd.underlying41 infoS rfl (by omega) rfl (xs := flatC l) (P3.out.below (hal2 (.cells #[.int .i64 1, .string ⟨#[]⟩, .int .i64 (n1 : Int)] 90))) rfl (news := [.int .i64 1, .string ⟨#[]⟩, .int .i64 (n1 : Int)]) (Sl.lit Z _ [_, _, _] 90 3 1 rfl rfl (by simp [maxLen])) (one3 _ _ _) (by omega) (by omega) (by omega) (by simp; omega) ?_); intro A9 d9 w9 hown9 hb9 hap9; obtain ⟨q1, q2, q3⟩ := Ly.grown (.cells #[.int .i64 1, .string ⟨#[]⟩, .int .i64 (n1 : Int)] 90) tLayer_ne.1 tLayer_ne.2.1 T1.out P2.out P3.out P4.out (x := ⟨1, ⟨#[]⟩, (n1 : Int)⟩) (wfS i64_1 (by unfold i64; omega) empty_max) hown9 hap9 hb9 hbS; have Q1 := Lib.hid q1; have Q2 := Lib.hid q2; have Q3 := Lib.hid q3; have x9 := (hap9.old bl (by simp; omega) (own0_ne (P3.out.below (hal2 (.cells #[.int .i64 1, .string ⟨#[]⟩, .int .i64 (n1 : Int)] 90))) ((alloc_past rl).trans P2.out) (by intro cur he; injection he with e1 e2 e3; exact tLayer_ne.1 e2))).trans ((alloc_past rl).trans P2.out); obtain ⟨s0, s1, sl⟩ := open2 x9; have sf := frozen_of x9 0; clear q1 q2 q3 x9 hown9 hap9 hb9))
    go_end0
    refine ⟨rfl, ?_, (HbX.out.mono hb0).trans (T2.out.trans Q2.out), (LKept.below HbX.out hlt.2).trans (T3.out.trans Q3.out)⟩
    rw [hn1eq.out]
    exact Q1.out
  ·rw [if_neg hneg]
   have hd : decide (atA a v < 0) = false := by simpa using hneg
   have Hneg := Lib.hid hneg
   clear haw hneg
   clear hk1 hT
   go_enter Tryd.func78, Tryd.ntmps78
   go_upto_region 2 with fail
   refine wp_world' (Φ := fun X => Below w.heap.size w X ∧ X.heap.size = w.heap.size + 1 ∧ X.heap[w.heap.size]? = some (.cells #[.int .i64 1, .string ⟨#[]⟩, .int .i64 v] 66 (0, 0))) ⟨hal, by simp, alloc_at rfl⟩ ?_
   rintro X ⟨hbX, hX1, x0⟩
   have HbX := Lib.hid hbX
   have hLX := HL.out.below hbX
   have HLX := Lib.hid hLX
   obtain ⟨gc, hgc⟩ : ∃ gc, gc = w.heap.size := ⟨_, rfl⟩
   rw [← hgc] at x0 hX1 ⊢
   have hgb : gc ≠ bl := by omega
   obtain ⟨z0, z1, z2, zl⟩ := open3 x0
   have HX0 := Lib.hid x0
   have hbX0 : base ≤ X.heap.size := by omega
   have hst := lstands_any base bl l a v X hLX hv9 hbX0 ha
   have Hst := Lib.hid hst
   have hfr := Ly.free_typ hLX x0 (by decide) (by decide) hgb
   have Hfr := Lib.hid hfr
   have hlv := extA_len_le a v
   have Hlv := Lib.hid hlv
   clear y0 y1 hbX hLX x0 e0' e1' e2' hal hgc yl hc1 hc2 hst hfr hlv
   go_wp2_with (first
    | (go_at_call 77; go_must (refine Hst.out.mono ?_); rintro e w3 ⟨rfl, hL3, hb3, hk3⟩; have HL3 := Lib.hid hL3; obtain ⟨A2, n2, c2, B2, m2, d2, p1, p2, p3, p4⟩ := hL3.has; have hlen2 := own0_len p3; have hlen3 := own0_len p4; rw [flatC_len] at hlen2; simp only [List.length_map, Nat.mul_one] at hlen3; have hn2 : n2 ≤ 100000 := (by omega); obtain ⟨r0, r1, rl⟩ := open2 p2; have rf := frozen_of p2 0; have hc1 := (p3.sl (by omega)).hcap; have hc2 := (p3.sl (by omega)).hmax; unfold maxLen at hc2; have hbZ : base ≤ w3.heap.size := Nat.le_trans hbX0 hb3.size; have hx3 := (hk3.free gc Hfr.out).1.trans HX0.out; obtain ⟨v0, v1, v2, vl⟩ := open3 hx3; have hal2 : ∀ o, Below w3.heap.size w3 (w3.alloc o) := (fun o => (Below.refl _ _).alloc (Nat.le_refl _) _); have P2 := Lib.hid p2; have P3 := Lib.hid p3; have P4 := Lib.hid p4; have Hlen3 := Lib.hid hlen3; clear p2 p3 p4 hlen2 hL3 hx3 hlen3)
    | (at_builtin; go_must (refine wpList_append_z rfl (.tmp 36) (.tmp 39) 41 rfl base 90 Tryd.underlying41 infoS rfl (by omega) rfl (xs := flatC l) (P3.out.below (hal2 (.cells #[.int .i64 1, .string ⟨#[]⟩, .int .i64 (atA a v)] 90))) rfl (news := [.int .i64 1, .string ⟨#[]⟩, .int .i64 (atA a v)]) (Sl.lit w3 _ [_, _, _] 90 3 1 rfl rfl (by simp [maxLen])) (one3 _ _ _) (by omega) (by omega) (by omega) (by simp; omega) ?_); intro A9 d9 w9 hown9 hb9 hap9; obtain ⟨q1, q2, q3⟩ := Ly.grown (.cells #[.int .i64 1, .string ⟨#[]⟩, .int .i64 (atA a v)] 90) tLayer_ne.1 tLayer_ne.2.1 HL3.out P2.out P3.out P4.out (x := ⟨1, ⟨#[]⟩, (atA a v)⟩) (wfS i64_1 Haw.out empty_max) hown9 hap9 hb9 hbZ; have Q1 := Lib.hid q1; have Q2 := Lib.hid q2; have Q3 := Lib.hid q3; have x9 := (hap9.old bl (by simp; omega) (own0_ne (P3.out.below (hal2 (.cells #[.int .i64 1, .string ⟨#[]⟩, .int .i64 (atA a v)] 90))) ((alloc_past rl).trans P2.out) (by intro cur he; injection he with e1 e2 e3; exact tLayer_ne.1 e2))).trans ((alloc_past rl).trans P2.out); obtain ⟨s0, s1, sl⟩ := open2 x9; have sf := frozen_of x9 0; clear q1 q2 q3 x9 hown9 hap9 hb9))
   go_end0
   exact ⟨rfl, Q1.out, (HbX.out.mono hb0).trans (hb3.trans Q2.out), (LKept.below HbX.out hlt.2).trans (hk3.trans Q3.out)⟩
theorem lslot_any (W : World) (base bl : Nat) (l : List C) (a : List Int) (T : Tm) (A : Option Addr) (n cap : Nat) (w : World) (hW : IsC W A n cap T.flat) (hbW : Below W.heap.size W w) (hWb : W.heap.size ≤ base)
  (h : Ly w base bl 136 l a) (hT : T.ok = true) (hl : l.length ≤ 100000) (ha : a.length ≤ 100000) (hb0 : base ≤ w.heap.size) :
  Calls Tryd.prog 78 #[.pointer (some ⟨bl, 0, none⟩), .slice A n cap] w (RetLy w base bl 136 (l ++ [(slotA T l.length 0 a).1]) (slotA T l.length 0 a).2 (.tuple #[])) := by
 rcases c0_kind (c0_ok hT) with hk | hk | hk
 ·exact lslot_v W base bl l a T A n cap w hW hbW hWb h hT hl ha hb0 0 hk
 ·exact lslot_i W base bl l a T A n cap w hW hbW hWb h hT hl ha hb0 0 hk
 ·exact lslot_f W base bl l a T A n cap w hW hbW hWb h hT hl ha hb0 0 hk
end Go.Proofs.YtgipiplklaeplaaDoor
