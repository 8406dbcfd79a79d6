/- Texts of this proof that belong together: words of memory, plain laws, walks. -/
import Derived.Test.YtgipiplklaeplaaDoorB09
import Derived.Test.YtgipiplklaeplaaDoorB42
import Derived.Test.YtgipiplklaeplaaDoorB43
set_option linter.unusedVariables false
set_option linter.unusedSimpArgs false
namespace Go.Proofs.YtgipiplklaeplaaDoor
open Go.RowKit
theorem Gx.kt {T : List TypeId} {w w' : World} {base bh be bn c md d kc : Nat} {A B N : Option Addr} {r x : Int} {l : List C} {ns : List Int} (h : Gx w base bh be bn A c B md d r l x N kc ns) (hk : KT T w w') (ht : 44 ∉ T ∧ 90 ∉ T ∧ 29 ∉ T ∧ 42 ∉ T ∧ 3 ∉ T) : Gx w' base bh be bn A c B md d r l x N kc ns :=
 ⟨hk.keep _ _ _ ht.1 h.hp, hk.own ht.2.1 h.row, h.wfc, hk.keep _ _ _ ht.2.2.1 h.er, hk.keep _ _ _ ht.2.2.2.1 h.nb, hk.own ht.2.2.2.2 h.nr, h.wfn, h.loe, h.lon⟩
theorem infoLitK : (Tryd.prog.info? 36).map (fun i => (i.zero, i.size, i.bytes)) = some (some (.agg #[.bool false, .slice none 0 0]), 2, 32) := by kernel_rfl
theorem oneLitK (ng : Bool) (A : Option Addr) (n c : Nat) : ∀ u ∈ [Value.bool ng, .slice A n c], u.oneCell' = true := by
 intro u hu
 simp at hu
 rcases hu with rfl | rfl <;> rfl
theorem flatG_get : ∀ (l : List (Bool × Int)) (k : Nat) (g : Bool × Int), l[k]? = some g → (flatG l)[k * 2]? = some (.bool g.1) ∧ (flatG l)[k * 2 + 1]? = some (.int .i64 g.2)
 | [], k, g, h => by simp at h
 | x :: l, 0, g, h => by
  simp at h
  subst h
  exact ⟨rfl, rfl⟩
 | x :: l, k + 1, g, h => by
  have := flatG_get l k g (by simpa using h)
  rw [Nat.succ_mul]
  simpa [flatG] using this
set_option maxRecDepth 100000 in
set_option maxHeartbeats 8000000 in
theorem kResolve_ok (s : ByteArray) (us : List Tm) (c : Cls) (At Ah Bl : Option Addr) (k kc n cap m d : Nat) (t : List C) (b : List (Bool × List C)) (room : Int) (mm : Mc) (j : Nat) (w : World) (h : IsC w At k kc (Tm.f s us).flat) (hc : IsC w Ah n cap t) (hB : IsLs w Bl m d b) (hcls : IsCls c (t, b)) (hmay : mayB (t, b) = true) (hne : (Tm.f s us).c0.beq c.head.c0 = true) (hA : (Tm.f s us).ok = true) (hs : (Tm.f s us).size ≤ 200) (hroom : i64 room) (hfit : ((putA [] (Tm.f s us) []).1.length : Int) ≤ newF room) (hdt : DT w) (hout : out (resM (Tm.f s us) (newF room)) (compF c) = .ok mm j) (hgood : Good mm.l) (hml : mm.l.length ≤ 100000) (hgl : mm.goals.length ≤ 100) :
  Calls Tryd.prog 13 #[.slice At k kc, .agg #[.slice Ah n cap, .slice Bl m d], .int .i64 room] w (RetRz w (match getsZ mm.l 0 mm.goals with | some r => .inl (numR r) | none => .inr 2)) := by
 have Hfit := Lib.hid hfit
 have Hmay := Lib.hid hmay
 have Hout := Lib.hid hout
 have Hdt := Lib.hid hdt
 have Hgood := Lib.hid hgood
 clear hfit hmay hout hdt hgood
 obtain ⟨Res, hRes⟩ : ∃ o : Raw ⊕ Int, o = (match getsZ mm.l 0 mm.goals with | some r => .inl (numR r) | none => .inr 2) := ⟨_, rfl⟩
 rw [← hRes]
 have HRes := Lib.hid hRes
 clear hRes
 obtain ⟨A, hAe⟩ : ∃ A, A = Tm.f s us := ⟨_, rfl⟩
 rw [← hAe] at h hne hA hs Hfit Hout
 have HAn := Lib.hid (show A.c0.n = (us.length : Int) by rw [hAe]; rfl)
 have hul : us.length ≤ 6 := by rw [hAe] at hA; simp [Tm.ok] at hA; exact hA.2.1
 have hp0 : (putA [] A []).2.1 = 0 := by rw [hAe]; rfl
 have Hstart := Lib.hid (show startM (putA [] A []).1 [] (newF room) ((List.range us.length).map fun i => ((i + 1 : Nat) : Int)) = resM A (newF room) by rw [hAe]; rfl)
 have Hok := Lib.hid (put_okH (okH_nil (newF_room Hfit.out (put_pos A)).1 (newF_room Hfit.out (put_pos A)).2) hA (atL_nil 0) Hfit.out).1
 have HAe := Lib.hid hAe
 clear hAe
 have hal : Below w.heap.size w (w.alloc (.cells #[.slice Ah n cap, .slice Bl m d] 25)) := (Below.refl _ _).alloc (Nat.le_refl _) _
 obtain ⟨ba, oa, rfl, hba, _, a0, a1, a2⟩ := h.at_ (flat_get0 A)
 obtain ⟨bh, oh, rfl, hbh, _, e0, e1, e2⟩ := hc.at_ (show t[0]? = some c.head.c0 by have q : c.head.flat = t := hcls.head; rw [← q]; exact flat_get0 _)
 have hk0 : 0 < k := by have := h.len; rw [flat_cons] at this; simp at this; omega
 have hn0 : 0 < n := by have := hc.len; have q : c.head.flat = t := hcls.head; rw [← q, flat_cons] at this; simp at this; omega
 have hkc := h.sl.hcap
 have hnc := hc.sl.hcap
 have Hh := Lib.hid h
 have Hc := Lib.hid hc
 have HB := Lib.hid hB
 have Hcls := Lib.hid hcls
 clear h hc hB hcls
 go_enter Tryd.func13, Tryd.ntmps13
 go_upto_region 1 with fail
 refine wp_world' (Φ := fun X => Below w.heap.size w X ∧ X.heap[w.heap.size]? = some (.cells #[.slice (some ⟨bh, oh, none⟩) n cap, .slice Bl m d] 25 (0, 0))) ⟨hal, alloc_at rfl⟩ ?_
 rintro X ⟨hbX, x0⟩
 obtain ⟨y0, y1, yl⟩ := open2 x0
 have z0 := (hbX.cell (p := ⟨ba, oa + 0 * 3, none⟩) hba).trans a0
 have z1 := (hbX.cell (p := ⟨ba, oa + 0 * 3 + 1, none⟩) hba).trans a1
 have z2 := (hbX.cell (p := ⟨ba, oa + 0 * 3 + 2, none⟩) hba).trans a2
 have u0 := (hbX.cell (p := ⟨bh, oh + 0 * 3, none⟩) hbh).trans e0
 have u1 := (hbX.cell (p := ⟨bh, oh + 0 * 3 + 1, none⟩) hbh).trans e1
 have u2 := (hbX.cell (p := ⟨bh, oh + 0 * 3 + 2, none⟩) hbh).trans e2
 simp only [Nat.zero_mul, Nat.add_zero] at z0 z1 z2 u0 u1 u2
 have HbX := Lib.hid hbX
 have Hx0 := Lib.hid x0
 have hneq := fun w => neqC A.c0 c.head.c0 w
 clear hbX x0 a0 a1 a2 e0 e1 e2 hal
 rw [hne] at hneq
 go_quiet (fail)
 have HbV := Lib.hid (below_drewN HbX.out nq)
 have HhV := Lib.hid (Hh.out.below HbV.out)
 have HxV := Lib.hid (((below_drewN (Below.refl X.heap.size X) nq).block _ (block_lt Hx0.out)).trans Hx0.out)
 clear hneq z0 z1 z2 u0 u1 u2 y0 y1 yl Hx0
 generalize X.drewN nq = V at *
 go_upto_region 6 with (first
  | (go_at_call 41; go_must (refine (hNew_any room V hroom).mono ?_); rintro e1 w1 ⟨rfl, hb1⟩; have Hb1 := Lib.hid hb1; have HhW := Lib.hid (HhV.out.below hb1); clear hb1)
  | (go_at_call 40; go_must (refine (hPut_any A none none none _ 0 0 0 0 0 0 k kc (newF room) [] [] w1 (IsC.nil0 w1) HhW.out (IsI.nil _ none 0 (by simp [maxLen])) hA hs (by omega) (by omega)).mono ?_); intro e2 w2 hput; go_must (unfold RetPut at hput; rw [if_pos Hfit.out] at hput; obtain ⟨A2, n2, c2, D2, k2, d2, rfl, hL, hD, hb2, _⟩ := hput); have Hb2 := Lib.hid ((HbV.out.trans (Hb1.out.mono HbV.out.size)).trans (hb2.mono (Nat.le_trans HbV.out.size Hb1.out.size))); have HL := Lib.hid hL; have HVw2 := Lib.hid (Hb1.out.trans (hb2.mono Hb1.out.size)); clear hL hD hb2))
 refine wp_world' (Φ := fun Y => Below w2.heap.size w2 Y ∧ Y.heap[w2.heap.size]? = some (.cells #[.slice A2 n2 c2, .slice none 0 0, .int .i64 (newF room)] 44 (0, 0)) ∧ Y.heap[w2.heap.size + 1]? = some (.cells #[.int .i64 0] 29 (0, 0))) ⟨((Below.refl _ _).alloc (Nat.le_refl _) _).alloc (by simp) _, (alloc_past (by simp)).trans (alloc_at rfl), alloc_at (by simp)⟩ ?_
 rintro Y ⟨hbY, xh, xe⟩
 have hszw2 := Hb2.out.size
 have HxY := Lib.hid (((HVw2.out.trans (hbY.mono HVw2.out.size)).block _ (block_lt HxV.out)).trans HxV.out)
 have HYw := Lib.hid (Hb2.out.trans (hbY.mono Hb2.out.size))
 have HLY := Lib.hid (HL.out.below hbY)
 obtain ⟨ba', oa', he, hbaY, _, _, _, z2⟩ := (Hh.out.below HYw.out).at_ (flat_get0 A)
 injection he with he
 injection he with he1 he2
 subst he1 he2
 simp only [Nat.zero_mul, Nat.add_zero] at z2
 rw [HAn.out] at z2
 have Hxh := Lib.hid xh
 have Hxe := Lib.hid xe
 have hi0 : i64 (us.length : Int) := i64_near (by omega) (by omega)
 clear xh xe hbY HL Hb2 Hb1 HVw2 HhW HhV HbV HxV
 go_wp2
 go_loopw [13, 49] (fun av iv wr => ∃ (j : Nat) (A5 : Option Addr) (c5 : Nat), j ≤ us.length ∧ iv = .int .i64 j ∧ av = .slice A5 j c5 ∧ Hid (Own0 wr Y.heap.size 3 1 (.slice A5 j c5) j (((List.range j).map fun i => ((i + 1 : Nat) : Int)).map (Value.int .i64))) ∧ Hid (Below Y.heap.size Y wr)) (fun _ iv _ => us.length - (intOf iv).toNat)
 case atStart => exact ⟨0, none, 0, Nat.zero_le _, rfl, rfl, Lib.hid (.inr (World.ownsRow_nil _ _ _ _)), Lib.hid (Below.refl _ _)⟩
 case round =>
  obtain ⟨j5, A5, c5, hj5, rfl, rfl, hO5, hb5⟩ := hrel
  by_cases hlt : j5 < us.length
  ·have hp : (j5 : Int) < (us.length : Int) := by omega
   have hsz5 := hb5.out.size
   have e5 : (1 + (j5 : Int)) = ((j5 + 1 : Nat) : Int) := by omega
   go_wp2_with (first | (at_builtin; go_must (refine wpList_append_own1 rfl (.tmp 52) (.tmp 57) 42 rfl Y.heap.size 3 Tryd.underlying42 infoI rfl (by omega) rfl (hO5.out.below ((Below.refl _ _).alloc (Nat.le_refl _) _)) rfl (Sl.lit _ _ [.int .i64 ((j5 : Int) + 1)] 3 1 1 (by first | rfl | simp) rfl (by decide)) (one1 rfl) (by omega) (by omega) (by omega) (by first | omega | (simp; omega) | exact Nat.le_trans hsz5 (by simp)) ?_); intro A' cap' w5 hown5 hb5' hap; have Hown5 := Lib.hid hown5; have Hb5 := Lib.hid ((hb5.out.alloc hsz5 _).trans hb5'); clear hap hb5' hown5))
   refine ⟨⟨j5 + 1, A', cap', by omega, by go_num, rfl, Lib.hid (.inr ?_), Hb5⟩, ?_⟩
   ·have := Hown5.out
    have e6 : ((j5 + 1 : Nat) : Int) = (j5 : Int) + 1 := by omega
    rw [← range_snoc, List.map_append, e6]
    exact this
   ·simp [intOf]; omega
  ·obtain rfl : j5 = us.length := by omega
   clear hlt hj5
   have xk := (hb5.out.block _ (block_lt HxY.out)).trans HxY.out
   have xh := (hb5.out.block _ (block_lt Hxh.out)).trans Hxh.out
   have xe := (hb5.out.block _ (block_lt Hxe.out)).trans Hxe.out
   obtain ⟨q0, q1, ql⟩ := open2 xk
   obtain ⟨h0, h1, h2, hl⟩ := open3 xh
   have Hbw := Lib.hid (HYw.out.trans (hb5.out.mono HYw.out.size))
   have HLw := Lib.hid (HLY.out.below hb5.out)
   have HRw := Lib.hid (show IsI wr A5 us.length c5 ((List.range us.length).map fun i => ((i + 1 : Nat) : Int)) from ⟨Own0.sl hO5.out (by omega), fun x hx => by
    obtain ⟨i, hi, rfl⟩ := List.mem_map.1 hx
    have := List.mem_range.1 hi
    exact i64_near (by omega) (by omega)⟩)
   have Hxh5 := Lib.hid xh
   have Hxe5 := Lib.hid xe
   clear xk xh xe hO5 hb5 HxY Hxh Hxe HLY
   go_upto_region 18 with (first
    | (go_at_call 42; go_must (refine (compile_yes c _ n cap t Bl m d b wr (Hc.out.below Hbw.out) (IsG.below keepsLit HB.out Hbw.out) Hcls.out Hmay.out).mono ?_); rintro e6 w6 ⟨Kd, kn, kcap, rfl, hK, hb6⟩; have HK := Lib.hid hK; have Hb6 := Lib.hid hb6; have Hbw6 := Lib.hid (Hbw.out.trans (hb6.mono Hbw.out.size)); obtain ⟨g0, g1, g2, gl⟩ := open3 ((hb6.block _ (block_lt Hxh5.out)).trans Hxh5.out); clear hK hb6)
    | (go_at_call 19; go_must (refine (kRun_any A2 none A5 Kd n2 c2 0 0 us.length c5 kn kcap (newF room) (kn : Int) (putA [] A []).1 [] ((List.range us.length).map fun i => ((i + 1 : Nat) : Int)) (compF c) w6 (HLw.out.below Hb6.out) (IsI.nil _ none 0 (by simp [maxLen])) (HRw.out.below Hb6.out) HK.out (Hdt.out.below Hbw6.out) Hok.out (by omega) (by have := HK.out.len; have := compF_len4 Hcls.out; omega) (by have := HK.out.len; have := compF_len4 Hcls.out; exact i64_near (by omega) (by omega)) (by rw [Hstart.out, Hout.out]; simp)).mono ?_); intro e7 w7 hrun; go_must (rw [show outN (startM (putA [] A []).1 [] (newF room) ((List.range us.length).map fun i => ((i + 1 : Nat) : Int))) (compF c) (kn : Int) = .ok mm j by unfold outN; rw [if_neg (by have := HK.out.len; omega), Hstart.out, Hout.out]] at hrun; obtain ⟨A7, c7, B7, d7, G7, g7, rfl, hrow7, hwf7, hI7, hgo7, hb7⟩ := hrun); have Hrow7 := Lib.hid hrow7; have Hwf7 := Lib.hid hwf7; have Hgo7 := Lib.hid hgo7; have Hbw7 := Lib.hid (Hbw6.out.trans (hb7.mono Hbw6.out.size)); have hszw6 := Hbw6.out.size; have p0 := ((hb7.block _ (by have := block_lt Hxh5.out; have := Hb6.out.size; omega)).trans ((Hb6.out.block _ (block_lt Hxh5.out)).trans Hxh5.out)); have p1 := ((hb7.block _ (by have := block_lt Hxe5.out; have := Hb6.out.size; omega)).trans ((Hb6.out.block _ (block_lt Hxe5.out)).trans Hxe5.out)); have Hp0 := Lib.hid p0; have Hp1 := Lib.hid p1; obtain ⟨g0, g1, g2, gl⟩ := open3 p0; have gf0 := frozen_of p0 0; have gf1 := frozen_of p0 1; have gf2 := frozen_of p0 2; obtain ⟨e0, el⟩ := open1 p1; have ef := frozen_of p1 0; clear hb7 p0 p1 hrow7 hwf7 hI7 hgo7))
   have hw7 := Hbw7.out.size
   refine wp_world' (Φ := fun Z => Gx Z w.heap.size w2.heap.size (w2.heap.size + 1) w7.heap.size A7 c7 B7 mm.tr.length d7 mm.r mm.l 0 none 0 [] ∧ KT [44, 29] w7 Z ∧ Below w.heap.size w Z) ?_ ?_
   ·obtain ⟨hx, hy⟩ := gx_start (B := B7) (md := mm.tr.length) (d := d7) (r := mm.r) Hp0.out Hp1.out (own_lower Hrow7.out hszw6) Hwf7.out (Nat.le_succ_of_le hszw2) hw7
    refine ⟨hx, hy, ?_⟩
    exact ((((Hbw7.out.setCell (p := ⟨w2.heap.size, 0, none⟩) hszw2 _).setCell (p := ⟨w2.heap.size, 1, none⟩) hszw2 _).setCell (p := ⟨w2.heap.size, 2, none⟩) hszw2 _).setCell (p := ⟨w2.heap.size + 1, 0, none⟩) (Nat.le_succ_of_le hszw2) _).alloc (by simpa using hw7) _
   rintro Z ⟨hGZ, hkZ, hbZ⟩
   have HGZ := Lib.hid hGZ
   have HbZ := Lib.hid hbZ
   have HgoZ := Lib.hid (hkZ.own (by decide) (own_lower Hgo7.out hszw6))
   have hszZ := hbZ.size
   clear hGZ hkZ hbZ g0 g1 g2 gl gf0 gf1 gf2 e0 el ef q0 q1 ql h0 h1 h2 hl Hgo7 Hrow7 Hwf7 Hp0 Hp1
   go_wp2_with (first
    | (go_at_call 43; go_must (refine (kGetN_any Z w.heap.size w2.heap.size (w2.heap.size + 1) w7.heap.size A7 c7 B7 mm.tr.length d7 mm.r mm.l 0 none 0 [] 0 HGZ.out Hgood.out hml (by simp) hszZ).mono ?_); intro e8 w8 hret; obtain ⟨A8, n8, c8, x8, N8, kc8, ns8, rfl, hG8, hR8, hk8, hb8, hl8⟩ := getN_first hret hszZ; have HG8 := Lib.hid hG8; have HR8 := Lib.hid hR8; have Hgo8 := Lib.hid (hk8.own (by decide) HgoZ.out); have Hb8 := Lib.hid (HbZ.out.trans hb8); clear hret hG8 hR8 hk8 hb8))
   clear HGZ HgoZ HbZ hszZ
   go_loopw [22, 85] (fun bv iv wr => ∃ (k9 : Nat) (L9 : Option Addr) (c9 : Nat) (vs : List (List Value)) (x9 : Int) (N9 : Option Addr) (kc9 : Nat) (ns9 : List Int), k9 ≤ mm.goals.length ∧ iv = .int .i64 k9 ∧ bv = .slice L9 k9 c9 ∧ Hid (wr.ownsRow w.heap.size 36 2 (.slice L9 k9 c9) k9 vs.flatten) ∧ Hid (vs.length = k9 ∧ ∀ v ∈ vs, v.length = 2) ∧ Hid (Gx wr w.heap.size w2.heap.size (w2.heap.size + 1) w7.heap.size A7 c7 B7 mm.tr.length d7 mm.r mm.l x9 N9 kc9 ns9) ∧ Hid (RvZ wr w.heap.size mm.l 0 (mm.goals.take k9) x9 ns9 (.slice A8 n8 c8) vs) ∧ Hid (ns9.length ≤ 200 * (k9 + 1)) ∧ Hid (wr.ownsRow w.heap.size 64 2 (.slice G7 mm.goals.length g7) mm.goals.length (flatG mm.goals)) ∧ Hid (Below w.heap.size w wr)) (fun _ iv _ => mm.goals.length - (intOf iv).toNat)
   case atStart => exact ⟨0, none, 0, [], x8, N8, kc8, ns8, Nat.zero_le _, rfl, rfl, Lib.hid (World.ownsRow_nil _ _ _ _), Lib.hid ⟨rfl, by simp⟩, HG8, HR8, Lib.hid (by omega), Hgo8, Hb8⟩
   case round =>
    clear HG8 HR8 Hgo8 Hb8
    obtain ⟨k9, L9, c9, vs, x9, N9, kc9, ns9, hk9, rfl, rfl, hL9, hv9, hG9, hR9, hn9, hgo9, hb9⟩ := hrel
    have hsz9 := hb9.out.size
    by_cases hlt : k9 < mm.goals.length
    ·obtain ⟨⟨gb, gp⟩, hgk⟩ : ∃ g, mm.goals[k9]? = some g := ⟨_, List.getElem?_eq_getElem hlt⟩
     obtain ⟨gg, rfl⟩ : ∃ gg, G7 = some ⟨gg, 0, none⟩ := by
      obtain ⟨g, cap', hv, _⟩ := hgo9.out.form (by omega)
      injection hv with hv
      exact ⟨g, hv⟩
     obtain ⟨f0, f1⟩ := flatG_get _ _ _ hgk
     have k0 := (hgo9.out.cellAt (k9 * 2) (by omega)).trans f0
     have k1 := (hgo9.out.cellAt (k9 * 2 + 1) (by omega)).trans f1
     have hcg : mm.goals.length ≤ g7 := (Sl.own hgo9.out (by omega)).hcap
     have hp : (k9 : Int) < (mm.goals.length : Int) := by omega
     have Hgk := Lib.hid hgk
     clear f0 f1 hgk
     go_upto_region 23 with fail
     refine wp_world' (Φ := fun P => Below wr.heap.size wr P ∧ P.heap[wr.heap.size]? = some (.cells #[.bool gb, .int .i64 gp] 64 (0, 0))) ⟨(Below.refl _ _).alloc (Nat.le_refl _) _, alloc_at rfl⟩ ?_
     rintro P ⟨hbP, hxP⟩
     obtain ⟨gx, hgx⟩ : ∃ gx, gx = wr.heap.size := ⟨_, rfl⟩
     rw [← hgx] at hxP ⊢
     have hbPd := hbP.drew
     have hxPd := ((Below.refl P.heap.size P).drew.block _ (block_lt hxP)).trans hxP
     clear k0 k1 hcg hgx hxP
     refine wp_region_held_drew (S := fun w' => w'.cell? ⟨gx, 0, none⟩ = some (.bool gb) ∧ w'.cell? ⟨gx, 1, none⟩ = some (.int .i64 gp)) (by kernel_rfl) ?gs ?gr
     case gs => exact ⟨(open2 hxPd).1, (open2 hxPd).2.1⟩
     case gr =>
      intro hHeld
      generalize P.drew = V at *
      have HGV := Lib.hid (hG9.out.below hbPd)
      have HgoV := Lib.hid (own_below hgo9.out hbPd)
      have HLV := Lib.hid (own_below hL9.out hbPd)
      have HRV := Lib.hid (hR9.out.kt (KT.below (T := []) hbPd) (by simp))
      have HbV9 := Lib.hid (hb9.out.trans (hbPd.mono hsz9))
      have HxV9 := Lib.hid hxPd
      have hszV9 := HbV9.out.size
      have hn9b : ns9.length ≤ 50000 := by have := hn9.out; omega
      clear hbP hbPd hxPd hG9 hgo9 hL9 hR9 hb9
      refine stepH 0 hHeld ?_
      refine stepH 1 hHeld ?_
      refine stepH 2 hHeld ?_
      refine stepH 3 hHeld ?_
      refine stepH 4 hHeld ?_
      refine stepH 5 hHeld ?_
      refine oneH 6 (fun K hK => ?_)
      go_simp
      go_at_call 43
      refine (kGetN_any V w.heap.size w2.heap.size (w2.heap.size + 1) w7.heap.size A7 c7 B7 mm.tr.length d7 mm.r mm.l x9 N9 kc9 ns9 gp HGV.out Hgood.out hml hn9b hszV9).mono ?_
      intro e10 w10 hret
      obtain ⟨A10, n10, c10, x10, N10, kc10, ns10, rfl, hG10, hR10, hk10, hb10, hl10⟩ := getN_next (g := (gb, gp)) hret hszV9 HRV.out
      have HG10 := Lib.hid hG10
      have HR10 := Lib.hid hR10
      have Hgo10 := Lib.hid (hk10.own (by decide) HgoV.out)
      have HL10 := Lib.hid (hk10.own (by decide) HLV.out)
      have Hb10 := Lib.hid (HbV9.out.trans hb10)
      have Hx10 := Lib.hid (hk10.keep _ _ _ (by decide) HxV9.out)
      have Hl10 := Lib.hid (show ns10.length ≤ 200 * (k9 + 1 + 1) by have := hn9.out; omega)
      clear hret hG10 hR10 hk10 hb10 hl10 HGV HRV HgoV HLV HbV9 HxV9 hn9
      try go_simp
      have hHeld8 : (fun w' : World => w'.cell? ⟨gx, 0, none⟩ = some (.bool gb) ∧ w'.cell? ⟨gx, 1, none⟩ = some (.int .i64 gp)) w10 := ⟨(open2 Hx10.out).1, (open2 Hx10.out).2.1⟩
      refine hK _ _ hHeld8 ?_
      clear hK K hHeld
      have hHeld := hHeld8
      clear hHeld8
      try simp only [Act.put, sA, sZ, sS]
      refine stepH 7 hHeld ?_
      refine oneH 8 (fun K hK => ?_)
      go_simp
      have hbA : Below w10.heap.size w10 (w10.alloc (.cells #[.bool gb, .slice A10 n10 c10] 36)) := (Below.refl _ _).alloc (Nat.le_refl _) _
      have HxA := Lib.hid ((hbA.block _ (block_lt Hx10.out)).trans Hx10.out)
      have HLA := Lib.hid (own_below HL10.out hbA)
      have HgoA := Lib.hid (own_below Hgo10.out hbA)
      have HGA := Lib.hid (HG10.out.below hbA)
      have HRA := Lib.hid (HR10.out.kt (KT.below (T := []) hbA) (by simp))
      have HbA := Lib.hid (Hb10.out.trans (hbA.mono Hb10.out.size))
      have HSl := Lib.hid (Sl.lit w10 _ [.bool gb, .slice A10 n10 c10] 36 2 1 rfl rfl (by simp [maxLen]))
      have hszA := HbA.out.size
      clear hbA
      have hHeld8 : (fun w' : World => w'.cell? ⟨gx, 0, none⟩ = some (.bool gb) ∧ w'.cell? ⟨gx, 1, none⟩ = some (.int .i64 gp)) (w10.alloc (.cells #[.bool gb, .slice A10 n10 c10] 36)) := ⟨(open2 HxA.out).1, (open2 HxA.out).2.1⟩
      refine hK _ _ hHeld8 ?_
      clear hK K hHeld
      have hHeld := hHeld8
      clear hHeld8
      try simp only [Act.put, sA, sZ, sS]
      refine oneH 9 (fun K hK => ?_)
      refine step_append_ap (xs := vs.flatten) (by rfl) (.tmp 89) (.tmp 97) 23 (by rfl) w.heap.size 36 Tryd.underlying23 infoLitK (by rfl) (by omega) (by rfl) (.inr HLA.out) (by rfl) (news := [.bool gb, .slice A10 n10 c10]) HSl.out (oneLitK _ _ _ _) (by omega) (by omega) (by omega) hszA ?_
      intro L11 c11 w11 hown11 hb11 hap11
      have hk11 : KT [36] (w10.alloc (.cells #[.bool gb, .slice A10 n10 c10] 36)) w11 := KT.app HLA.out hap11 (by simp)
      have Hx11 := Lib.hid (hk11.keep _ _ _ (by decide) HxA.out)
      have HG11 := Lib.hid (HGA.out.kt hk11 (by decide))
      have HR11 := Lib.hid (HRA.out.kt hk11 (by decide))
      have Hgo11 := Lib.hid (hk11.own (by decide) HgoA.out)
      have Hb11 := Lib.hid (HbA.out.trans hb11)
      have HL11 := Lib.hid hown11
      clear hk11 hown11 hb11 hap11
      have hHeld8 : (fun w' : World => w'.cell? ⟨gx, 0, none⟩ = some (.bool gb) ∧ w'.cell? ⟨gx, 1, none⟩ = some (.int .i64 gp)) w11 := ⟨(open2 Hx11.out).1, (open2 Hx11.out).2.1⟩
      refine hK _ _ hHeld8 ?_
      clear hK K hHeld
      have hHeld := hHeld8
      clear hHeld8
      try simp only [Act.put, sA, sZ, sS]
      refine stepH 10 hHeld ?_
      refine wpAnyH_done (by kernel_rfl) ?_ _
      go_wp2
      refine ⟨⟨k9 + 1, L11, c11, vs ++ [[.bool gb, .slice A10 n10 c10]], x10, N10, kc10, ns10, by omega, by go_num, rfl, Lib.hid ?_, Lib.hid ⟨?_, ?_⟩, HG11, Lib.hid ?_, Hl10, Hgo11, Hb11⟩, ?_⟩
      ·have := HL11.out
       rw [List.flatten_append]
       simpa using this
      ·simp [hv9.out.1]
      ·intro v hv
       rcases List.mem_append.1 hv with hv | hv
       ·exact hv9.out.2 v hv
       ·simp at hv; subst hv; rfl
      ·obtain ⟨hl, he⟩ := List.getElem?_eq_some_iff.1 Hgk.out
       rw [List.take_succ_eq_append_getElem hl, he]
       exact HR11.out
      ·simp [intOf]; omega
    ·obtain rfl : k9 = mm.goals.length := by omega
     obtain ⟨er0, erl⟩ := open1 hG9.out.er
     have hfull : mm.goals.take mm.goals.length = mm.goals := List.take_length
     rcases hR9.out with ⟨hx9, t9, b9, hY⟩ | ⟨hx9, hnone⟩
     ·subst hx9
      have HY := Lib.hid hY
      have hres : Res = .inl (numR (t9, b9)) := by
       rw [HRes.out]
       have e1 := hY.top
       have e2 := hY.body
       rw [hfull] at e2
       unfold getsZ
       rw [e1, e2]
      have Hres := Lib.hid hres
      clear hY hres hfull
      go_wp2
      refine bodyPost_ret (v := .tuple #[.slice A8 n8 c8, .slice L9 mm.goals.length c9, .int .i64 0]) (by simp [results, Tryd.results13, go_sem]) rfl ?_
      rw [Hres.out]
      obtain ⟨Ao, co, ho1, ho2⟩ := HY.out.out
      have hwf := HY.out.wf
      have hlits := HY.out.lits
      have hnm := HY.out.names
      injection ho1 with z1 z2 z3
      subst z1 z2 z3
      have hb9l := getsL_len HY.out.body
      rw [List.length_take, Nat.min_self] at hb9l
      refine ⟨_, _, _, _, _, _, rfl, ⟨?_, ?_⟩, ?_, hb9.out⟩
      ·simp only [numR]
       rw [← hnm]
       exact Sl.own ho2 (by omega)
      ·simp only [numR]
       rw [← hnm]
       exact hwf
      ·simp only [numR]
       rw [← hnm]
       refine IsG.own hL9.out (by omega) (by simp [hb9l]) (by rw [hv9.out.1]; simp [hb9l]) hv9.out.2 (fun i x v hx hv => ?_)
       rw [List.getElem?_map] at hx
       cases hq : b9[i]? with
       | none => rw [hq] at hx; cases hx
       | some q =>
        rw [hq] at hx
        injection hx with hx
        subst hx
        obtain ⟨Ai, ci, hi1, hi2, hi3⟩ := hlits i q v hq hv
        exact ⟨Ai, _, ci, hi1, ⟨Sl.own hi2 (by omega), hi3⟩⟩
     ·subst hx9
      have hres : Res = .inr 2 := by
       rw [hfull] at hnone
       rw [HRes.out, hnone]
      have Hres := Lib.hid hres
      clear hnone hres hfull
      go_wp2
      go_quiet (fail)
      go_wp2
      rw [Hres.out]
      refine bodyPost_ret (v := .tuple #[.slice none 0 0, .slice none 0 0, .int .i64 2]) (by simp [results, Tryd.results13, go_sem]) rfl ⟨rfl, below_drewN hb9.out _⟩
end Go.Proofs.YtgipiplklaeplaaDoor
namespace Go.Proofs.YtgipiplklaeplaaDoor
open Go.RowKit
theorem res_safe {s : ByteArray} {us : List Tm} {c : Cls} {r : Raw} (hcls : IsCls c r) (hA : (Tm.f s us).ok = true) (hs : (Tm.f s us).size ≤ 200) (hne : (Tm.f s us).c0.beq c.head.c0 = true) {room : Int} (hfit : ((putA [] (Tm.f s us) []).1.length : Int) ≤ newF room) :
  ∃ Ts, c.head = .f s Ts ∧ us.length = Ts.length ∧ ∃ (st : St) (kn : List (Tm × Int)), Safe (resM (Tm.f s us) (newF room)) Ts ((resM (Tm.f s us) (newF room)).l.length + c.need) (fun m => Inv (resM (Tm.f s us) (newF room)) Ts ((resM (Tm.f s us) (newF room)).l.length + c.need) st [] [] kn c.body 0 m) (out (resM (Tm.f s us) (newF room)) (compF c)) := by
 obtain ⟨k1, k2⟩ := newF_room hfit (put_pos (Tm.f s us))
 have hc := (beq_iff _ _).1 hne
 obtain ⟨Ts, hT, hl⟩ : ∃ Ts, c.head = .f s Ts ∧ us.length = Ts.length := by
  cases h : c.head with
  | v n => rw [h] at hc; simp [Tm.c0] at hc
  | i n => rw [h] at hc; simp [Tm.c0] at hc
  | f s' Ts =>
   rw [h] at hc
   simp only [Tm.c0, C.mk.injEq, true_and] at hc
   exact ⟨Ts, by rw [hc.1], by omega⟩
 have hmok := resM_ok (r := newF room) rfl hA hs k1 k2 hfit
 have h := comp_run (m0 := resM (Tm.f s us) (newF room)) c hcls.hok.1 (fun l hl => ⟨(hcls.bok l hl).1, (hcls.bok l hl).2.2⟩) hmok (by rw [hT]; simp [resM, Tm.args, hl]) rfl
 rw [hT] at h
 exact ⟨Ts, hT, hl, h⟩
theorem res_room {m0 m : Mc} {Ts : List Tm} {N k : Nat} {st : St} {row known : List (Tm × Int)} {pend : List Tm} {done : List Ltl} (h : Inv m0 Ts N st row pend known done k m) : Good m.l ∧ m.l.length ≤ 4096 ∧ m.goals.length = done.length := by
 have := h.mok.ok
 exact ⟨this.good, by have h1 := this.fit; have h2 := this.room2; simp only at h1 h2; omega, h.go.1⟩
theorem kResolve_any (s : ByteArray) (us : List Tm) (c : Cls) (At Ah Bl : Option Addr) (k kc n cap m d : Nat) (t : List C) (b : List (Bool × List C)) (room : Int) (w : World) (h : IsC w At k kc (Tm.f s us).flat) (hc : IsC w Ah n cap t) (hB : IsLs w Bl m d b) (hcls : IsCls c (t, b)) (hmay : mayB (t, b) = true) (hA : (Tm.f s us).ok = true) (hs : (Tm.f s us).size ≤ 200) (hroom : i64 room) (hdt : DT w) :
  Calls Tryd.prog 13 #[.slice At k kc, .agg #[.slice Ah n cap, .slice Bl m d], .int .i64 room] w (RetRz w (resZ (Tm.f s us) c room)) := by
 cases hne : (Tm.f s us).c0.beq c.head.c0 with
 | false =>
  have e : resZ (Tm.f s us) c room = .inr 3 := by unfold resZ; rw [if_pos hne]
  rw [e]
  exact kResolve_no _ c At Ah Bl k kc n cap m d t b room w h hc hB hcls hne
 | true =>
  by_cases hfit : ((putA [] (Tm.f s us) []).1.length : Int) ≤ newF room
  ·obtain ⟨Ts, hT, hl, st, kn, hsafe⟩ := res_safe hcls hA hs hne hfit
   have e0 : resZ (Tm.f s us) c room = (match out (resM (Tm.f s us) (newF room)) (compF c) with
     | .ok m _ => (match getsZ m.l 0 m.goals with | some r => .inl (numR r) | none => .inr 2)
     | .err e _ => .inr e
     | .bad => .inr 0) := by unfold resZ; rw [if_neg (by rw [hne]; simp), if_pos hfit]; rfl
   rw [e0]
   cases hout : out (resM (Tm.f s us) (newF room)) (compF c) with
   | bad => rw [hout] at hsafe; exact hsafe.elim
   | err x j =>
    rw [hout] at hsafe
    exact kResolve_err s us c At Ah Bl k kc n cap m d t b room x j w h hc hB hcls hmay hne hA hs hroom hfit hdt hout (by rcases hsafe with h | h <;> omega)
   | ok mm j =>
    rw [hout] at hsafe
    obtain ⟨g1, g2, g3⟩ := res_room hsafe
    have := hcls.len
    exact kResolve_ok s us c At Ah Bl k kc n cap m d t b room mm j w h hc hB hcls hmay hne hA hs hroom hfit hdt hout g1 (by omega) (by omega)
  ·have e : resZ (Tm.f s us) c room = .inr 80 := by unfold resZ; rw [if_neg (by rw [hne]; simp), if_neg hfit]
   rw [e]
   exact kResolve_full _ c At Ah Bl k kc n cap m d t b room w h hc hB hcls hne hA hs hroom hfit
end Go.Proofs.YtgipiplklaeplaaDoor
namespace Go.Proofs.YtgipiplklaeplaaDoor
open Go.RowKit Go.Deep
def stepC : McO → In → McO
 | .ok m k, i => (match stepF m i with | .ok m' => .ok m' (k + 1) | .err e => .err e k)
 | .err e k, _ => .err e k
 | .bad, _ => .bad
def outC (m : Mc) (l : List In) : McO := l.foldl stepC (.ok m 0)
theorem fold_C : ∀ (l : List In) (o : McO), l.foldl stepO o ≠ .bad → l.foldl stepO o = l.foldl stepC o
 | [], _, _ => rfl
 | i :: l, o, h => by
  rw [List.foldl_cons] at h ⊢
  have e : stepO o i = stepC o i := by
   cases o with
   | bad => exact absurd (fold_bad l) h
   | err e k => rfl
   | ok m k =>
    by_cases hf : Fit m i
    ·rw [stepO_yes hf]; rfl
    ·rw [stepO_no hf] at h
     exact absurd (fold_bad l) h
  rw [List.foldl_cons, ← e]
  exact fold_C l _ h
theorem out_C {m : Mc} {l : List In} (h : out m l ≠ .bad) : out m l = outC m l := fold_C l _ h
def resC (A : Tm) (c : Cls) (room : Int) : Raw ⊕ Int :=
 if A.c0.beq c.head.c0 = false then .inr 3
 else if ((putA [] A []).1.length : Int) ≤ newF room then
  (match outC (resM A (newF room)) (compF c) with
  | .ok m _ => (match getsZ m.l 0 m.goals with | some r => .inl (numR r) | none => .inr 2)
  | .err e _ => .inr e
  | .bad => .inr 0)
 else .inr 80
def nmP : ByteArray := ⟨#[112]⟩
def nmQ : ByteArray := ⟨#[113]⟩
def nmR : ByteArray := ⟨#[114]⟩
def hcC : Cls := ⟨.f nmP [.v 0, .v 0], [⟨false, .f nmQ [.v 0]⟩, ⟨true, .f nmR [.v 1, .v 0]⟩]⟩
def hcA : Tm := .f nmP [.v 0, .i 7]
def hcD : Cls := ⟨.f nmP [.v 0, .f ⟨#[102]⟩ [.v 0]], []⟩
def hcB : Tm := .f nmP [.v 0, .v 0]
def hcE : Tm := .f nmP [.f ⟨#[97]⟩ []]
def hcT : List C := [⟨3, nmP, 2⟩, ⟨2, emp, 7⟩, ⟨2, emp, 7⟩]
def hcL : List (Bool × List C) := [(false, [⟨3, nmQ, 1⟩, ⟨2, emp, 7⟩]), (true, [⟨3, nmR, 2⟩, ⟨1, emp, 0⟩, ⟨2, emp, 7⟩])]
theorem hc1 : resC hcA hcC 50 = .inl (hcT, hcL) := by kernel_rfl
theorem hc2 : resC hcB hcD 50 = .inr 3 := by kernel_rfl
theorem hc3 : resC hcE hcC 50 = .inr 3 := by kernel_rfl
theorem hc4 : resC hcA hcC 3 = .inr 80 := by kernel_rfl
theorem hc5 : resC hcA hcC 2 = .inr 80 := by kernel_rfl
def hcM : Mc := ⟨[⟨1, emp, 0⟩], [], 9, [0], 0, []⟩
def hcK : List In := [{ op := 4, a := 0, name := ⟨#[103]⟩, n := 1 }, { op := 7, n := 5 }, { op := 13, name := nmP, n := 1 }]
def hcR : Mc := ⟨[⟨1, emp, 1⟩, ⟨4, ⟨#[103]⟩, 1⟩, ⟨1, emp, 3⟩, ⟨2, emp, 5⟩], [0, 2], 9, [0], 3, []⟩
theorem hc6 : outC hcM hcK = .ok hcR 3 := by kernel_rfl
def hcG : Cls := ⟨.f nmP [.f ⟨#[103]⟩ [.i 5]], []⟩
theorem hcG_code : compF hcG = hcK := by kernel_rfl
theorem hcM_ok : McOk hcM := by
 have h := (put_okH (okH_nil (r := 9) (by omega) (by omega)) (T := .v 0) (by rfl) (atL_nil 0) (by decide)).1
 exact ⟨h, by simp [hcM], by simp [hcM]⟩
theorem hcK_bad : out hcM hcK ≠ .bad := by
 obtain ⟨st, kn, h⟩ := comp_run (m0 := hcM) hcG (by rfl) (by simp [hcG]) hcM_ok rfl rfl
 rw [hcG_code] at h
 intro hb
 rw [hb] at h
 exact h
theorem hc7 : out hcM hcK = .ok hcR 3 := (out_C hcK_bad).trans hc6
theorem hc8 : outN hcM hcK 3 = .ok hcR 3 := by
 unfold outN
 rw [if_neg (by decide), hc7]
theorem hc9 : outN hcM hcK 2 = .err 110 2 := by
 unfold outN
 rw [if_pos (by decide)]
 rcases out_take hcK_bad (k := 2) (by decide) with ⟨m', h⟩ | ⟨e, j, h1, h2, h3⟩
 ·rw [show ((2 : Int)).toNat = 2 from rfl, h]
 ·rw [hc7] at h3; cases h3
theorem resZ_C {s : ByteArray} {us : List Tm} {c : Cls} {r : Raw} (hcls : IsCls c r) (hA : (Tm.f s us).ok = true) (hs : (Tm.f s us).size ≤ 200) (room : Int) : resZ (Tm.f s us) c room = resC (Tm.f s us) c room := by
 unfold resZ resC
 cases hne : (Tm.f s us).c0.beq c.head.c0 with
 | false => rw [if_pos rfl, if_pos rfl]
 | true =>
  rw [if_neg (show ¬ (true = false) by simp), if_neg (show ¬ (true = false) by simp)]
  by_cases hfit : ((putA [] (Tm.f s us) []).1.length : Int) ≤ newF room
  ·rw [if_pos hfit, if_pos hfit]
   obtain ⟨Ts, hT, hl, st, kn, hsafe⟩ := res_safe hcls hA hs hne hfit
   rw [out_C (fun hb => by rw [hb] at hsafe; exact hsafe)]
   rfl
  ·rw [if_neg hfit, if_neg hfit]
end Go.Proofs.YtgipiplklaeplaaDoor
