/- The walk of the layer's slot. -/
import Derived.Deep.CutBlock
import Derived.Test.YtlndjooddkjnoaaB0
import Derived.Test.YtlndjooddkjnoaaHL1
set_option linter.unusedVariables false
set_option linter.unusedSimpArgs false
namespace Go.Proofs.Ytlndjooddkjnoaa
open Go.RowKit

theorem infoS : (Try.prog.info? 68).map (fun i => (i.zero, i.size, i.bytes)) = some (some (.agg #[.int .i64 0, .string ⟨#[]⟩, .int .i64 0]), 3, 32) := by kernel_rfl
theorem one3 (k n : Int) (s : ByteArray) : ∀ u ∈ [Value.int .i64 k, Value.string s, Value.int .i64 n], u.oneCell' = true := by
  intro u hu
  simp at hu
  rcases hu with rfl | rfl | rfl <;> rfl
theorem wfS {k n : Int} {s : ByteArray} (h1 : i64 k) (h2 : i64 n) (h3 : s.size ≤ maxLen) : (⟨k, s, n⟩ : C).wf := ⟨h1, h2, h3⟩

theorem i64_4 : i64 4 := ⟨by decide, by decide⟩
theorem i64_3 : i64 3 := ⟨by decide, by decide⟩
theorem i64_1 : i64 1 := ⟨by decide, by decide⟩
theorem i64_2 : i64 2 := ⟨by decide, by decide⟩
theorem empty_max : (⟨#[]⟩ : ByteArray).size ≤ maxLen := by decide
theorem Ly.free_typ {w : World} {base bl g : Nat} {T t : TypeId} {l : List C} {a : List Int} {cs : Array Value} (h : Ly w base bl T l a) (hg : w.heap[g]? = some (.cells cs t (0, 0))) (h1 : t ≠ 68) (h2 : t ≠ 3) (hne : g ≠ bl) : LFree w bl g := by
  obtain ⟨A, n, c, B, m, d, k1, k2, k3, k4⟩ := h.has
  refine ⟨block_lt hg, hne, ?_, ?_⟩
  · rw [lyB_0 k2]
    intro he
    obtain ⟨a', ha', hg', hc'⟩ := vblkZ_some he
    exact own0_ne k3 hg (by intro cur he; injection he with e1 e2 e3; exact h1 e2) hc' a' ha' hg'
  · rw [lyB_1 k2]
    intro he
    obtain ⟨a', ha', hg', hc'⟩ := vblkZ_some he
    exact own0_ne k4 hg (by intro cur he; injection he with e1 e2 e3; exact h2 e2) hc' a' ha' hg'
theorem IsC.tm0 {w : World} {A : Option Addr} {n cap : Nat} {T : Tm} (h : IsC w A n cap T.flat) :
    ∃ b off, A = some ⟨b, off, none⟩ ∧ b < w.heap.size ∧ w.cell? ⟨b, off, none⟩ = some (.int .i64 T.c0.kind) ∧ w.cell? ⟨b, off + 1, none⟩ = some (.string T.c0.name) ∧ w.cell? ⟨b, off + 2, none⟩ = some (.int .i64 T.c0.n) ∧ 0 < n := by
  obtain ⟨b, off, hA, hb, _, h0, h1, h2⟩ := h.at_ (flat_get0 T)
  simp at h0 h1 h2
  have hl := h.len
  rw [flat_size] at hl
  have := T.size_pos
  exact ⟨b, off, hA, hb, h0, h1, h2, by omega⟩
/-- the first row grown behind a literal that was just made -/
theorem Ly.grown {Y w' : World} {base bl : Nat} {T : TypeId} {l : List C} {a : List Int} {A B A' : Option Addr} {n c m d cap' : Nat} {x : C} (o : Obj) (hTs : T ≠ 68) (hTi : T ≠ 3)
    (hL : Ly Y base bl T l a) (h2 : Y.heap[bl]? = some (.cells #[.slice A n c, .slice B m d] T (0, 0))) (h3 : Own0 Y base 68 3 (.slice A n c) n (flatC l)) (h4 : Own0 Y base 3 1 (.slice B m d) m (a.map (Value.int .i64)))
    (hx : x.wf) (hown : w'.ownsRow base 68 3 (.slice A' (n + 1) cap') (n + 1) (flatC l ++ x.flat)) (hap : ApartZ (Y.alloc o) w' A c A') (hb : Below base (Y.alloc o) w') (hbase : base ≤ Y.heap.size) :
    Ly (w'.setCell ⟨bl, 0, none⟩ (.slice A' (n + 1) cap')) base bl T (l ++ [x]) a ∧ Below base Y (w'.setCell ⟨bl, 0, none⟩ (.slice A' (n + 1) cap')) ∧ LKept Y (w'.setCell ⟨bl, 0, none⟩ (.slice A' (n + 1) cap')) bl := by
  have hal : Below Y.heap.size Y (Y.alloc o) := (Below.refl _ _).alloc (Nat.le_refl _) _
  have hlt := hL.lt
  obtain ⟨q1, q2, q3⟩ := Ly.grow0 hTs hTi tLayer_ne.2.2.2.2 ((alloc_past hlt.2).trans h2) hlt.1 (h3.below hal) (h4.below hal) hL.wfc hL.wfi hx hown hap hb
  exact ⟨q1, (hal.mono hbase).trans q2, (LKept.below hal hlt.2).trans q3⟩
/-- a store into the second row -/
theorem Ly.set1 {w : World} {base bl : Nat} {T : TypeId} {l : List C} {a : List Int} {A : Option Addr} {n c m d gb v : Nat} {x : Int} (hTs : T ≠ 68) (hTi : T ≠ 3)
    (hL : Ly w base bl T l a) (h2 : w.heap[bl]? = some (.cells #[.slice A n c, .slice (some ⟨gb, 0, none⟩) m d] T (0, 0))) (h3 : Own0 w base 68 3 (.slice A n c) n (flatC l)) (h4 : Own0 w base 3 1 (.slice (some ⟨gb, 0, none⟩) m d) m (a.map (Value.int .i64)))
    (hv : v < a.length) (hx : i64 x) : Ly (w.setCell ⟨gb, v, none⟩ (.int .i64 x)) base bl T l (a.set v x) ∧ Below base w (w.setCell ⟨gb, v, none⟩ (.int .i64 x)) ∧ LKept w (w.setCell ⟨gb, v, none⟩ (.int .i64 x)) bl := by
  have hml := own0_len h4
  simp at hml
  obtain ⟨s1, s2, s3⟩ := own0_sets (i := v) h4 (by omega) (.int .i64 x)
  have hd : 0 < d := by have := (h4.sl (by omega)).hcap; omega
  have nB : gb ≠ bl := fun e => own0_ne h4 h2 (by intro cur he; injection he with e1 e2 e3; exact hTi e2) hd _ rfl e
  have hnew : (w.setCell ⟨gb, v, none⟩ (.int .i64 x)).heap[bl]? = some (.cells #[.slice A n c, .slice (some ⟨gb, 0, none⟩) m d] T (0, 0)) := (set_other (fun e => nB e.symm) _).trans h2
  have nA : 0 < c → ∀ a, A = some a → a.block ≠ gb := by
    intro hc a ha he
    obtain ⟨_, cur, g1⟩ := own0_typ h4 hd _ rfl
    obtain ⟨_, cur', g2⟩ := own0_typ h3 hc a ha
    rw [he] at g2
    simp only at g1
    rw [g1] at g2
    injection g2 with g2
    injection g2 with e1 e2 e3
    exact tLayer_ne.2.2.2.2 e2.symm
  have hset : (a.map (Value.int .i64)).set v (.int .i64 x) = (a.set v x).map (Value.int .i64) := by rw [List.map_set]
  rw [hset] at s1
  refine ⟨⟨⟨A, n, c, some ⟨gb, 0, none⟩, m, d, hL.lt.1, hnew, own0_at h3 (fun hc a ha => set_other (nA hc a ha) _), s1⟩, hL.wfc, fun y hy => ?_⟩, Below.setCell (p := ⟨gb, v, none⟩) (Below.refl base w) s3 _, ⟨fun g hg => ?_⟩⟩
  · rcases List.mem_or_eq_of_mem_set hy with h | h
    · exact hL.wfi y h
    · rw [h]; exact hx
  · have hg0 := hg.c0
    have hg1 := hg.c1
    rw [lyB_0 h2] at hg0
    rw [lyB_1 h2] at hg1
    have hgg : g ≠ gb := fun e => vblkZ_ne hg1 hd _ rfl e.symm
    exact ⟨set_other hgg _, ⟨by simpa using hg.lt, hg.m, by rw [lyB_0 hnew]; exact hg0, by rw [lyB_1 hnew]; exact hg1⟩⟩
set_option maxRecDepth 100000 in
set_option maxHeartbeats 4000000 in
theorem lslot_i (W : World) (base bl : Nat) (l : List C) (a : List Int) (T : Tm) (A : Option Addr) (n cap : Nat) (w : World) (hW : IsC W A n cap T.flat) (hbW : Below W.heap.size W w) (hWb : W.heap.size ≤ base)
    (h : Ly w base bl 77 l a) (hT : T.ok = true) (hl : l.length ≤ 100000) (ha : a.length ≤ 100000) (hb0 : base ≤ w.heap.size) (q : Nat) :
    T.c0.kind = 2 → Calls Try.prog 55 #[.pointer (some ⟨bl, 0, none⟩), .slice A n cap] w (RetLy w base bl 77 (l ++ [(slotA T l.length 0 a).1]) (slotA T l.length 0 a).2 (.tuple #[])) := by
  intro hk2
  obtain ⟨b0, off0, rfl, hb00, e0, e1, e2, hn0⟩ := hW.tm0
  obtain ⟨hcW, _⟩ := bcell hbW
  have e0' := (hcW b0 _ hb00).trans e0
  have e1' := (hcW b0 _ hb00).trans e1
  have e2' := (hcW b0 _ hb00).trans e2
  have hbw : b0 < w.heap.size := Nat.lt_of_lt_of_le hb00 hbW.size
  have hn0' : (0 : Int) < (n : Int) := by omega
  have hlt := h.lt
  have HL := Lib.hid h
  obtain ⟨A1, n1, c1, B1, m1, d1, g1, g2, g3, g4⟩ := h.has
  have hlen := own0_len g3
  rw [flatC_len] at hlen
  have hn1 : n1 ≤ 100000 := by omega
  have Hlen : Hid (l.length = n1) := Lib.hid (by omega)
  obtain ⟨y0, y1, yl⟩ := open2 g2
  have hc1 := (g3.sl (by omega)).hcap
  have hc2 := (g3.sl (by omega)).hmax
  unfold maxLen at hc2
  have hal : Below w.heap.size w (w.alloc (.cells #[.int .i64 T.c0.kind, .string T.c0.name, .int .i64 T.c0.n] 54)) := (Below.refl _ _).alloc (Nat.le_refl _) _
  clear hcW e0 e1 e2 h g2 g3 g4 hlen
  cases T with
  | v x => simp [Tm.c0] at hk2
  | f s us => simp [Tm.c0] at hk2
  | i k =>
    simp only [Tm.c0] at e0' e1' e2' hal
    have hk64 : i64 k := by simp [Tm.ok] at hT; exact ⟨by omega, by omega⟩
    clear hk2
    go_enter Try.func55, Try.ntmps55
    go_upto_region 2 with fail
    refine wp_world' (Φ := fun X => Below w.heap.size w X ∧ X.heap[w.heap.size]? = some (.cells #[.int .i64 2, .string ⟨#[]⟩, .int .i64 k] 54 (0, 0))) ⟨hal, alloc_at rfl⟩ ?_
    rintro X ⟨hbX, x0⟩
    have HbX := Lib.hid hbX
    have hLX := HL.out.below hbX
    have HLX := Lib.hid hLX
    obtain ⟨gc, hgc⟩ : ∃ gc, gc = w.heap.size := ⟨_, rfl⟩
    rw [← hgc] at x0 ⊢
    have HX0 : Hid (X.heap[gc]? = _) := Lib.hid x0
    obtain ⟨z0, z1, z2, zl⟩ := open3 x0
    have y0X := (hbX.cell (p := ⟨bl, 0, none⟩) yl).trans y0
    have ylX : bl < X.heap.size := Nat.lt_of_lt_of_le yl hbX.size
    have hbX0 : base ≤ X.heap.size := Nat.le_trans hb0 hbX.size
    clear y0 y1 hbX hLX x0 e0' e1' e2' hal hgc
    go_upto_region 8 with fail
    refine region_but 12 (fun w' => w'.cell? ⟨bl, 0, none⟩ = some (.slice A1 n1 c1) ∧ w'.cell? ⟨gc, 2, none⟩ = some (.int .i64 k)) (by kernel_rfl) ?_
    have hHeld : (fun w' : World => w'.cell? ⟨bl, 0, none⟩ = some (.slice A1 n1 c1) ∧ w'.cell? ⟨gc, 2, none⟩ = some (.int .i64 k)) X.drew := by simp [*]
    have hLd := HLX.out.below (show Below X.heap.size X X.drew from (Below.refl _ _).drew)
    have hbd : Below w.heap.size w X.drew := HbX.out.drew
    have HLd := Lib.hid hLd
    have Hbd := Lib.hid hbd
    have hxd : Hid (X.drew.heap[gc]? = _) := Lib.hid HX0.out
    have yld : bl < X.drew.heap.size := ylX
    have hbd0 : base ≤ X.drew.heap.size := hbX0
    clear hLd hbd y0X z0 z1 z2 zl ylX HLX HbX hbX0 HX0
    generalize X.drew = Y at *
    refine but_take (i := 0) (oi := ?oi0) (v := ?v0) ?hi0 (by kernel_rfl) (by kernel_rfl) (by kernel_rfl) (by kernel_rfl) ?hQ0 (Or.inl ⟨?hw0, ?hy0⟩) hHeld ?rest0
    case hi0 => (simp only [List.getElem?_toArray, List.getElem?_cons_succ, List.getElem?_cons_zero]; exact rfl)
    case hQ0 => exact fun _ _ _ h => h
    case hw0 => rfl
    case hy0 => (intro w hSw; (try dsimp only at hSw); go_simp <;> with_reducible rfl)
    try simp only [Act.put, List.setIfInBounds_toArray, List.set_cons_zero, List.set_cons_succ]
    refine but_take (i := 1) (oi := ?oi1) (v := ?v1) ?hi1 (by kernel_rfl) (by kernel_rfl) (by kernel_rfl) (by kernel_rfl) ?hQ1 (Or.inl ⟨?hw1, ?hy1⟩) hHeld ?rest1
    case hi1 => (simp only [List.getElem?_toArray, List.getElem?_cons_succ, List.getElem?_cons_zero]; exact rfl)
    case hQ1 => exact fun _ _ _ h => h
    case hw1 => rfl
    case hy1 => (intro w hSw; (try dsimp only at hSw); go_simp <;> with_reducible rfl)
    try simp only [Act.put, List.setIfInBounds_toArray, List.set_cons_zero, List.set_cons_succ]
    refine but_take (i := 2) (oi := ?oi2) (v := ?v2) ?hi2 (by kernel_rfl) (by kernel_rfl) (by kernel_rfl) (by kernel_rfl) ?hQ2 (Or.inl ⟨?hw2, ?hy2⟩) hHeld ?rest2
    case hi2 => (simp only [List.getElem?_toArray, List.getElem?_cons_succ, List.getElem?_cons_zero]; exact rfl)
    case hQ2 => exact fun _ _ _ h => h
    case hw2 => rfl
    case hy2 => (intro w hSw; (try dsimp only at hSw); go_simp <;> with_reducible rfl)
    try simp only [Act.put, List.setIfInBounds_toArray, List.set_cons_zero, List.set_cons_succ]
    refine but_take (i := 3) (oi := ?oi3) (v := ?v3) ?hi3 (by kernel_rfl) (by kernel_rfl) (by kernel_rfl) (by kernel_rfl) ?hQ3 (Or.inl ⟨?hw3, ?hy3⟩) hHeld ?rest3
    case hi3 => (simp only [List.getElem?_toArray, List.getElem?_cons_succ, List.getElem?_cons_zero]; exact rfl)
    case hQ3 => exact fun _ _ _ h => h
    case hw3 => rfl
    case hy3 => (intro w hSw; (try dsimp only at hSw); go_simp <;> with_reducible rfl)
    try simp only [Act.put, List.setIfInBounds_toArray, List.set_cons_zero, List.set_cons_succ]
    refine but_take (i := 4) (oi := ?oi4) (v := ?v4) ?hi4 (by kernel_rfl) (by kernel_rfl) (by kernel_rfl) (by kernel_rfl) ?hQ4 (Or.inl ⟨?hw4, ?hy4⟩) hHeld ?rest4
    case hi4 => (simp only [List.getElem?_toArray, List.getElem?_cons_succ, List.getElem?_cons_zero]; exact rfl)
    case hQ4 => exact fun _ _ _ h => h
    case hw4 => rfl
    case hy4 => (intro w hSw; (try dsimp only at hSw); go_simp <;> with_reducible rfl)
    try simp only [Act.put, List.setIfInBounds_toArray, List.set_cons_zero, List.set_cons_succ]
    refine but_take (i := 5) (oi := ?oi5) (v := ?v5) ?hi5 (by kernel_rfl) (by kernel_rfl) (by kernel_rfl) (by kernel_rfl) ?hQ5 (Or.inl ⟨?hw5, ?hy5⟩) hHeld ?rest5
    case hi5 => (simp only [List.getElem?_toArray, List.getElem?_cons_succ, List.getElem?_cons_zero]; exact rfl)
    case hQ5 => exact fun _ _ _ h => h
    case hw5 => rfl
    case hy5 => (intro w hSw; (try dsimp only at hSw); go_simp <;> with_reducible rfl)
    try simp only [Act.put, List.setIfInBounds_toArray, List.set_cons_zero, List.set_cons_succ]
    refine but_take (i := 6) (oi := ?oi6) (v := ?v6) ?hi6 (by kernel_rfl) (by kernel_rfl) (by kernel_rfl) (by kernel_rfl) ?hQ6 (Or.inl ⟨?hw6, ?hy6⟩) hHeld ?rest6
    case hi6 => (simp only [List.getElem?_toArray, List.getElem?_cons_succ, List.getElem?_cons_zero]; exact rfl)
    case hQ6 => exact fun _ _ _ h => h
    case hw6 => rfl
    case hy6 => (intro w hSw; (try dsimp only at hSw); go_simp <;> with_reducible rfl)
    try simp only [Act.put, List.setIfInBounds_toArray, List.set_cons_zero, List.set_cons_succ]
    refine but_take (i := 7) (oi := ?oi7) (v := ?v7) ?hi7 (by kernel_rfl) (by kernel_rfl) (by kernel_rfl) (by kernel_rfl) ?hQ7 (Or.inl ⟨?hw7, ?hy7⟩) hHeld ?rest7
    case hi7 => (simp only [List.getElem?_toArray, List.getElem?_cons_succ, List.getElem?_cons_zero]; exact rfl)
    case hQ7 => exact fun _ _ _ h => h
    case hw7 => rfl
    case hy7 => (intro w hSw; (try dsimp only at hSw); go_simp <;> with_reducible rfl)
    try simp only [Act.put, List.setIfInBounds_toArray, List.set_cons_zero, List.set_cons_succ]
    refine but_one (i := 8) (o := ?oi8) (by kernel_rfl) ?hi8 (fun K hK => ?rest8)
    case hi8 => (simp only [List.getElem?_toArray, List.getElem?_cons_succ, List.getElem?_cons_zero]; exact rfl)
    go_simp
    have hHeld8 : (fun w' : World => w'.cell? ⟨bl, 0, none⟩ = some (.slice A1 n1 c1) ∧ w'.cell? ⟨gc, 2, none⟩ = some (.int .i64 k)) (Y.alloc (.cells #[.int .i64 2, .string ⟨#[]⟩, .int .i64 k] 68)) := by simp [World.cell?_alloc_some, *]
    refine hK _ _ (.inr hHeld8) ?_
    clear hK K hHeld
    have hHeld := hHeld8
    clear hHeld8
    try simp only [Act.put, List.setIfInBounds_toArray, List.set_cons_zero, List.set_cons_succ]
    have hal2 : Below Y.heap.size Y (Y.alloc (.cells #[.int .i64 2, .string ⟨#[]⟩, .int .i64 k] 68)) := (Below.refl _ _).alloc (Nat.le_refl _) _
    obtain ⟨A2, n2, c2, B2, m2, d2, p1, p2, p3, p4⟩ := HLd.out.has
    obtain ⟨r0, r1, rl⟩ := open2 p2
    have r0' := (hHeld.1.symm.trans ((hal2.cell (p := ⟨bl, 0, none⟩) rl).trans r0))
    injection r0' with r0'
    injection r0' with i1 i2 i3
    subst i1; subst i2; subst i3
    refine but_one (i := 9) (o := ?oi9) (by kernel_rfl) ?hi9 (fun K hK => ?rest9)
    case hi9 => (simp only [List.getElem?_toArray, List.getElem?_cons_succ, List.getElem?_cons_zero]; exact rfl)
    refine step_append_z (by rfl) (.tmp 49) (.tmp 53) 22 (by rfl) base 68 Try.underlying22 infoS (by rfl) (by omega) (by rfl) (xs := flatC l) ?_ (by rfl) (news := [.int .i64 2, .string ⟨#[]⟩, .int .i64 k]) ?_ (one3 _ _ _) (by omega) (by omega) (by omega) (by simp; omega) ?_
    focus (exact p3.below hal2)
    focus (exact Sl.lit Y _ [_, _, _] 68 3 1 rfl rfl (by simp [maxLen]))
    intro A9 d9 w9 hown9 hb9 hap9
    obtain ⟨q1, q2, q3⟩ := Ly.grown (.cells #[.int .i64 2, .string ⟨#[]⟩, .int .i64 k] 68) tLayer_ne.1 tLayer_ne.2.1 HLd.out p2 p3 p4 (x := ⟨2, ⟨#[]⟩, k⟩) (wfS i64_2 hk64 empty_max) hown9 hap9 hb9 hbd0
    have Q1 := Lib.hid q1
    have Q2 := Lib.hid q2
    have Q3 := Lib.hid q3
    have x9 := (hap9.old bl (by simp; omega) (own0_ne (p3.below hal2) ((alloc_past rl).trans p2) (by intro cur he; injection he with e1 e2 e3; exact tLayer_ne.1 e2))).trans ((alloc_past rl).trans p2)
    have xg := (hap9.old gc (by have := block_lt hxd.out; simp; omega) (own0_ne (p3.below hal2) ((alloc_past (block_lt hxd.out)).trans hxd.out) (by intro cur he; simp at he))).trans ((alloc_past (block_lt hxd.out)).trans hxd.out)
    obtain ⟨s0, s1, sl⟩ := open2 x9
    obtain ⟨t0, t1, t2, tl⟩ := open3 xg
    have sf := frozen_of x9 0
    clear q1 q2 q3 x9 xg hown9 hap9 hb9 t0 t1 p2 p3 p4 r0 r1
    have hHeld8 : (fun w' : World => w'.cell? ⟨bl, 0, none⟩ = some (.slice A1 n1 c1) ∧ w'.cell? ⟨gc, 2, none⟩ = some (.int .i64 k)) w9 := ⟨s0, t2⟩
    refine hK _ _ (.inr hHeld8) ?_
    clear hK K hHeld
    have hHeld := hHeld8
    clear hHeld8
    try simp only [Act.put, List.setIfInBounds_toArray, List.set_cons_zero, List.set_cons_succ]
    refine but_one (i := 10) (o := ?oi10) (by kernel_rfl) ?hi10 (fun K hK => ?rest10)
    case hi10 => (simp only [List.getElem?_toArray, List.getElem?_cons_succ, List.getElem?_cons_zero]; exact rfl)
    go_simp
    have hHeld8 : (fun w' : World => w'.cell? ⟨bl, 0, none⟩ = some (.slice A1 n1 c1) ∧ w'.cell? ⟨gc, 2, none⟩ = some (.int .i64 k)) w9 := ⟨s0, t2⟩
    refine hK _ _ (.inr hHeld8) ?_
    clear hK K hHeld
    have hHeld := hHeld8
    clear hHeld8
    try simp only [Act.put, List.setIfInBounds_toArray, List.set_cons_zero, List.set_cons_succ]
    refine but_one (i := 11) (o := ?oi11) (by kernel_rfl) ?hi11 (fun K hK => ?rest11)
    case hi11 => (simp only [List.getElem?_toArray, List.getElem?_cons_succ, List.getElem?_cons_zero]; exact rfl)
    go_simp
    have hHeld8 : (fun w' : World => w'.cell? ⟨bl, 0, none⟩ = some (.slice A1 n1 c1) ∧ w'.cell? ⟨gc, 2, none⟩ = some (.int .i64 k)) w9 := ⟨s0, t2⟩
    refine hK _ _ (.inr hHeld8) ?_
    clear hK K hHeld
    have hHeld := hHeld8
    clear hHeld8
    try simp only [Act.put, List.setIfInBounds_toArray, List.set_cons_zero, List.set_cons_succ]
    refine but_one (i := 12) (o := ?oi12) (by kernel_rfl) ?hi12 (fun K hK => ?rest12)
    case hi12 => (simp only [List.getElem?_toArray, List.getElem?_cons_succ, List.getElem?_cons_zero]; exact rfl)
    go_simp
    refine hK _ _ (.inl rfl) ?_
    clear hK K hHeld
    try simp only [Act.put, List.setIfInBounds_toArray, List.set_cons_zero, List.set_cons_succ]
    refine but_done (by kernel_rfl) ?_ _
    go_wp2
    go_end0
    exact ⟨rfl, Q1.out, (Hbd.out.mono hb0).trans Q2.out, (LKept.below Hbd.out hlt.2).trans Q3.out⟩
set_option maxRecDepth 100000 in
set_option maxHeartbeats 4000000 in
theorem lslot_f (W : World) (base bl : Nat) (l : List C) (a : List Int) (T : Tm) (A : Option Addr) (n cap : Nat) (w : World) (hW : IsC W A n cap T.flat) (hbW : Below W.heap.size W w) (hWb : W.heap.size ≤ base)
    (h : Ly w base bl 77 l a) (hT : T.ok = true) (hl : l.length ≤ 100000) (ha : a.length ≤ 100000) (hb0 : base ≤ w.heap.size) (q : Nat) :
    T.c0.kind = 3 → Calls Try.prog 55 #[.pointer (some ⟨bl, 0, none⟩), .slice A n cap] w (RetLy w base bl 77 (l ++ [(slotA T l.length 0 a).1]) (slotA T l.length 0 a).2 (.tuple #[])) := by
  intro hk3
  obtain ⟨b0, off0, rfl, hb00, e0, e1, e2, hn0⟩ := hW.tm0
  obtain ⟨hcW, _⟩ := bcell hbW
  have e0' := (hcW b0 _ hb00).trans e0
  have e1' := (hcW b0 _ hb00).trans e1
  have e2' := (hcW b0 _ hb00).trans e2
  have hbw : b0 < w.heap.size := Nat.lt_of_lt_of_le hb00 hbW.size
  have hn0' : (0 : Int) < (n : Int) := by omega
  have hlt := h.lt
  have HL := Lib.hid h
  obtain ⟨A1, n1, c1, B1, m1, d1, g1, g2, g3, g4⟩ := h.has
  have hlen := own0_len g3
  rw [flatC_len] at hlen
  have hn1 : n1 ≤ 100000 := by omega
  have Hlen : Hid (l.length = n1) := Lib.hid (by omega)
  obtain ⟨y0, y1, yl⟩ := open2 g2
  have hc1 := (g3.sl (by omega)).hcap
  have hc2 := (g3.sl (by omega)).hmax
  unfold maxLen at hc2
  have hal : Below w.heap.size w (w.alloc (.cells #[.int .i64 T.c0.kind, .string T.c0.name, .int .i64 T.c0.n] 54)) := (Below.refl _ _).alloc (Nat.le_refl _) _
  clear hcW e0 e1 e2 h g2 g3 g4 hlen
  cases T with
  | v x => simp [Tm.c0] at hk3
  | i k => simp [Tm.c0] at hk3
  | f s us =>
    simp only [Tm.c0] at e0' e1' e2' hal
    clear hk3
    go_enter Try.func55, Try.ntmps55
    go_upto_region 2 with fail
    refine wp_world' (Φ := fun X => Below w.heap.size w X ∧ X.heap[w.heap.size]? = some (.cells #[.int .i64 3, .string s, .int .i64 us.length] 54 (0, 0))) ⟨hal, alloc_at rfl⟩ ?_
    rintro X ⟨hbX, x0⟩
    have HbX := Lib.hid hbX
    have hLX := HL.out.below hbX
    have HLX := Lib.hid hLX
    obtain ⟨gc, hgc⟩ : ∃ gc, gc = w.heap.size := ⟨_, rfl⟩
    rw [← hgc] at x0 ⊢
    obtain ⟨z0, z1, z2, zl⟩ := open3 x0
    have hbX0 : base ≤ X.heap.size := Nat.le_trans hb0 hbX.size
    clear y0 y1 hbX hLX x0 e0' e1' e2' hal hgc yl hc1 hc2
    obtain ⟨A2, n2, c2, B2, m2, d2, p1, p2, p3, p4⟩ := HLX.out.has
    have hlen2 := own0_len p3
    rw [flatC_len] at hlen2
    have hn2 : n2 ≤ 100000 := by omega
    obtain ⟨r0, r1, rl⟩ := open2 p2
    have rf := frozen_of p2 0
    have hc1 := (p3.sl (by omega)).hcap
    have hc2 := (p3.sl (by omega)).hmax
    unfold maxLen at hc2
    have hal2 : Below X.heap.size X (X.alloc (.cells #[.int .i64 3, .string ⟨#[]⟩, .int .i64 0] 68)) := (Below.refl _ _).alloc (Nat.le_refl _) _
    have P2 := Lib.hid p2
    have P3 := Lib.hid p3
    have P4 := Lib.hid p4
    clear p2 p3 p4 hlen2
    go_wp2_with (first
      | (at_builtin; go_must (refine wpList_append_z rfl (.tmp 63) (.tmp 65) 22 rfl base 68 Try.underlying22 infoS rfl (by omega) rfl (xs := flatC l) (P3.out.below hal2) rfl (news := [.int .i64 3, .string ⟨#[]⟩, .int .i64 0]) (Sl.lit X _ [_, _, _] 68 3 1 rfl rfl (by simp [maxLen])) (one3 _ _ _) (by omega) (by omega) (by omega) (by simp; omega) ?_); intro A9 d9 w9 hown9 hb9 hap9; obtain ⟨q1, q2, q3⟩ := Ly.grown (.cells #[.int .i64 3, .string ⟨#[]⟩, .int .i64 0] 68) tLayer_ne.1 tLayer_ne.2.1 HLX.out P2.out P3.out P4.out (x := ⟨3, ⟨#[]⟩, 0⟩) (wfS i64_3 i64_0' empty_max) hown9 hap9 hb9 hbX0; have Q1 := Lib.hid q1; have Q2 := Lib.hid q2; have Q3 := Lib.hid q3; have x9 := (hap9.old bl (by simp; omega) (own0_ne (P3.out.below hal2) ((alloc_past rl).trans P2.out) (by intro cur he; injection he with e1 e2 e3; exact tLayer_ne.1 e2))).trans ((alloc_past rl).trans P2.out); obtain ⟨s0, s1, sl⟩ := open2 x9; have sf := frozen_of x9 0; clear q1 q2 q3 x9 hown9 hap9 hb9))
    go_end0
    exact ⟨rfl, Q1.out, (HbX.out.mono hb0).trans Q2.out, (LKept.below HbX.out hlt.2).trans Q3.out⟩
end Go.Proofs.Ytlndjooddkjnoaa
