/- The walk of the layer's slot: variables; all together. -/
import Derived.Test.YtlndjooddkjnoaaHL2
set_option linter.unusedVariables false
set_option linter.unusedSimpArgs false
namespace Go.Proofs.Ytlndjooddkjnoaa
open Go.RowKit

set_option maxRecDepth 100000 in
set_option maxHeartbeats 4000000 in
theorem lslot_v (W : World) (base bl : Nat) (l : List C) (a : List Int) (T : Tm) (A : Option Addr) (n cap : Nat) (w : World) (hW : IsC W A n cap T.flat) (hbW : Below W.heap.size W w) (hWb : W.heap.size ≤ base)
    (h : Ly w base bl 77 l a) (hT : T.ok = true) (hl : l.length ≤ 100000) (ha : a.length ≤ 100000) (hb0 : base ≤ w.heap.size) (q : Nat) :
    T.c0.kind = 1 → Calls Try.prog 55 #[.pointer (some ⟨bl, 0, none⟩), .slice A n cap] w (RetLy w base bl 77 (l ++ [(slotA T l.length 0 a).1]) (slotA T l.length 0 a).2 (.tuple #[])) := by
  intro hk1
  obtain ⟨b0, off0, rfl, hb00, e0, e1, e2, hn0⟩ := hW.tm0
  obtain ⟨hcW, _⟩ := bcell hbW
  have e0' := (hcW b0 _ hb00).trans e0
  have e1' := (hcW b0 _ hb00).trans e1
  have e2' := (hcW b0 _ hb00).trans e2
  have hbw : b0 < w.heap.size := Nat.lt_of_lt_of_le hb00 hbW.size
  have hn0' : (0 : Int) < (n : Int) := by omega
  have hlt := h.lt
  have HL := Lib.hid h
  obtain ⟨A1, n1, c1, B1, m1, d1, g1, g2, g3, g4⟩ := h.has
  have hlen := own0_len g3
  rw [flatC_len] at hlen
  have hn1 : n1 ≤ 100000 := by omega
  have Hlen : Hid (l.length = n1) := Lib.hid (by omega)
  obtain ⟨y0, y1, yl⟩ := open2 g2
  have hc1 := (g3.sl (by omega)).hcap
  have hc2 := (g3.sl (by omega)).hmax
  unfold maxLen at hc2
  have hal : Below w.heap.size w (w.alloc (.cells #[.int .i64 T.c0.kind, .string T.c0.name, .int .i64 T.c0.n] 54)) := (Below.refl _ _).alloc (Nat.le_refl _) _
  clear hcW e0 e1 e2 h g2 g3 g4 hlen
  cases T with
  | f s us => simp [Tm.c0] at hk1
  | i k => simp [Tm.c0] at hk1
  | v x =>
    simp [Tm.ok] at hT
    obtain ⟨v, rfl⟩ : ∃ v : Nat, x = v := ⟨x.toNat, by omega⟩
    have hv9 : v ≤ 999 := by omega
    simp only [Tm.c0] at e0' e1' e2' hal
    rw [slotA_v]
    simp only [Int.toNat_natCast]
    have haw : i64 (atA a v) := by
      unfold atA
      cases hav : a[v]? with
      | none => exact ⟨by decide, by decide⟩
      | some y => exact HL.out.wfi y (List.mem_of_getElem? hav)
    have Haw := Lib.hid haw
    by_cases hneg : atA a v < 0
    · rw [if_pos hneg]
      have hd : decide (atA a v < 0) = true := by simpa using hneg
      have Hneg := Lib.hid hneg
      clear haw
      clear hk1 hT
      go_enter Try.func55, Try.ntmps55
      go_upto_region 2 with fail
      refine wp_world' (Φ := fun X => Below w.heap.size w X ∧ X.heap.size = w.heap.size + 1 ∧ X.heap[w.heap.size]? = some (.cells #[.int .i64 1, .string ⟨#[]⟩, .int .i64 v] 54 (0, 0))) ⟨hal, by simp, alloc_at rfl⟩ ?_
      rintro X ⟨hbX, hX1, x0⟩
      have HbX := Lib.hid hbX
      have hLX := HL.out.below hbX
      have HLX := Lib.hid hLX
      obtain ⟨gc, hgc⟩ : ∃ gc, gc = w.heap.size := ⟨_, rfl⟩
      rw [← hgc] at x0 hX1 ⊢
      have hgb : gc ≠ bl := by omega
      obtain ⟨z0, z1, z2, zl⟩ := open3 x0
      have HX0 := Lib.hid x0
      have hbX0 : base ≤ X.heap.size := by omega
      have hst := lstands_any base bl l a v X hLX hv9 hbX0 ha
      have Hst := Lib.hid hst
      have hfr := Ly.free_typ hLX x0 (by decide) (by decide) hgb
      have Hfr := Lib.hid hfr
      have hlv := extA_len_le a v
      have Hlv := Lib.hid hlv
      clear y0 y1 hbX hLX x0 e0' e1' e2' hal hgc yl hc1 hc2 hst hfr hlv
      go_upto_region 5 with (go_at_call 54; go_must (refine Hst.out.mono ?_); rintro e w3 ⟨rfl, hL3, hb3, hk3⟩; have HL3 := Lib.hid hL3; obtain ⟨A2, n2, c2, B2, m2, d2, p1, p2, p3, p4⟩ := hL3.has; have hlen2 := own0_len p3; have hlen3 := own0_len p4; rw [flatC_len] at hlen2; simp only [List.length_map, Nat.mul_one] at hlen3; have hn2 : n2 ≤ 100000 := (by omega); obtain ⟨r0, r1, rl⟩ := open2 p2; have rf := frozen_of p2 0; have hc1 := (p3.sl (by omega)).hcap; have hc2 := (p3.sl (by omega)).hmax; unfold maxLen at hc2; have hbZ : base ≤ w3.heap.size := Nat.le_trans hbX0 hb3.size; have hx3 := (hk3.free gc Hfr.out).1.trans HX0.out; obtain ⟨v0, v1, v2, vl⟩ := open3 hx3; have hal2 : ∀ o, Below w3.heap.size w3 (w3.alloc o) := (fun o => (Below.refl _ _).alloc (Nat.le_refl _) _); have P2 := Lib.hid p2; have P3 := Lib.hid p3; have P4 := Lib.hid p4; have Hlen3 := Lib.hid hlen3; clear p2 p3 p4 hlen2 hL3 hx3 hlen3)
      have hvlt := extA_len a v
      obtain ⟨gb, hgbB⟩ : ∃ gb, B2 = some ⟨gb, 0, none⟩ := by
        rcases P4.out with ⟨A', he, h1, h2⟩ | h
        · have := Hlen3.out; omega
        · obtain ⟨g, cap', hv', _⟩ := h.form (by have := Hlen3.out; omega)
          injection hv' with hv'
          exact ⟨g, hv'⟩
      subst hgbB
      have hown1 : w3.ownsRow base 3 1 (.slice (some ⟨gb, 0, none⟩) m2 d2) m2 ((extA a v).map (Value.int .i64)) := by
        rcases P4.out with ⟨A', he, h1, h2⟩ | h
        · have := Hlen3.out; omega
        · exact h
      have hvm : v < m2 := by have := Hlen3.out; omega
      have hget : ((extA a v).map (Value.int .i64))[v]? = some (.int .i64 (atA a v)) := by rw [List.getElem?_map, extA_get]; rfl
      have hcv := (hown1.cellAt v (by omega)).trans hget
      have hfv := hown1.frozenAt v
      have hgbl := (hown1.lt gb rfl)
      have hn1eq : Hid ((l.length : Int) = (n1 : Int)) := Lib.hid (by have := Hlen.out; omega)
      have hgblt := hgbl.2
      have hgbne : ¬ gb = bl := by
        intro e
        have hd2 : 0 < d2 := by have := (P4.out.sl (by omega)).hcap; omega
        exact own0_ne P4.out P2.out (by intro cur he; injection he with e1 e2 e3; exact tLayer_ne.2.1 e2) hd2 _ rfl e
      have hgbne2 : ¬ gb = gc := by
        intro e
        have hd2 : 0 < d2 := by have := (P4.out.sl (by omega)).hcap; omega
        have hx3 := (hk3.free gc Hfr.out).1.trans HX0.out
        exact own0_ne P4.out hx3 (by intro cur he; simp at he) hd2 _ rfl e
      have hbd3 : Below w3.heap.size w3 w3.drew := (Below.refl _ _).drew
      have hLd := HL3.out.below hbd3
      have p2d : w3.drew.heap[bl]? = some (.cells #[.slice A2 n2 c2, .slice (some ⟨gb, 0, none⟩) m2 d2] 77 (0, 0)) := P2.out
      have p3d := P3.out.below hbd3
      have p4d := P4.out.below hbd3
      obtain ⟨t1, t2, t3⟩ := Ly.set1 (x := (n1 : Int)) tLayer_ne.1 tLayer_ne.2.1 hLd p2d p3d p4d hvlt (by unfold i64; omega)
      have T1 := Lib.hid t1
      have T2 := Lib.hid ((hb3.mono (Nat.le_refl _)).trans ((hbd3.mono hbZ).trans t2))
      have T3 := Lib.hid (hk3.trans ((LKept.below hbd3 rl).trans t3))
      have hcvd : w3.drew.cell? ⟨gb, v, none⟩ = some (.int .i64 (atA a v)) := hcv
      have hfvd : w3.drew.frozen? ⟨gb, v, none⟩ = false := hfv
      have p2s : (w3.drew.setCell ⟨gb, v, none⟩ (.int .i64 (n1 : Int))).heap[bl]? = some (.cells #[.slice A2 n2 c2, .slice (some ⟨gb, 0, none⟩) m2 d2] 77 (0, 0)) := (set_other (fun e => hgbne e.symm) _).trans p2d
      have gcs : (w3.drew.setCell ⟨gb, v, none⟩ (.int .i64 (n1 : Int))).heap[gc]? = some (.cells #[.int .i64 1, .string ⟨#[]⟩, .int .i64 v] 54 (0, 0)) := (set_other (fun e => hgbne2 e.symm) _).trans ((hk3.free gc Hfr.out).1.trans HX0.out)
      have hbZd : base ≤ w3.drew.heap.size := hbZ
      have hgbd : gb < w3.drew.heap.size := hgblt
      have P2s := Lib.hid p2s
      have Gcs := Lib.hid gcs
      clear hown1 hget t1 t2 t3 hgbl hvlt hd p2s gcs p2d p3d p4d hLd
      refine wp_region_held_drew (S := fun w' => w'.cell? ⟨bl, 1, none⟩ = some (.slice (some ⟨gb, 0, none⟩) m2 d2) ∧ w'.cell? ⟨gc, 2, none⟩ = some (.int .i64 (v : Int))) (by kernel_rfl) ?gs ?gr
      case gs => simp [*]
      case gr =>
        intro hHeld
        clear hcv hfv r0 r1 rf v0 v1 v2 vl z0 z1 z2 zl rl hgblt hbd3
        generalize w3.drew = Y at *
        refine wpAnyH_take (i := 0) (oi := ?oi0u1) (v := ?v0u1) ?hi0u1 (by kernel_rfl) (by kernel_rfl) (by kernel_rfl) ?hQ0u1 (Or.inl ⟨?hw0u1, ?hy0u1⟩) hHeld ?rest0u1
        case hi0u1 => (simp only [List.getElem?_toArray, List.getElem?_cons_succ, List.getElem?_cons_zero]; exact rfl)
        case hQ0u1 => exact fun _ _ _ h => h
        case hw0u1 => rfl
        case hy0u1 => (intro w hSw; (try dsimp only at hSw); go_simp <;> with_reducible rfl)
        try simp only [Act.put, List.setIfInBounds_toArray, List.set_cons_zero, List.set_cons_succ]
        refine wpAnyH_take (i := 1) (oi := ?oi1u2) (v := ?v1u2) ?hi1u2 (by kernel_rfl) (by kernel_rfl) (by kernel_rfl) ?hQ1u2 (Or.inl ⟨?hw1u2, ?hy1u2⟩) hHeld ?rest1u2
        case hi1u2 => (simp only [List.getElem?_toArray, List.getElem?_cons_succ, List.getElem?_cons_zero]; exact rfl)
        case hQ1u2 => exact fun _ _ _ h => h
        case hw1u2 => rfl
        case hy1u2 => (intro w hSw; (try dsimp only at hSw); go_simp <;> with_reducible rfl)
        try simp only [Act.put, List.setIfInBounds_toArray, List.set_cons_zero, List.set_cons_succ]
        refine wpAnyH_take (i := 2) (oi := ?oi2u3) (v := ?v2u3) ?hi2u3 (by kernel_rfl) (by kernel_rfl) (by kernel_rfl) ?hQ2u3 (Or.inl ⟨?hw2u3, ?hy2u3⟩) hHeld ?rest2u3
        case hi2u3 => (simp only [List.getElem?_toArray, List.getElem?_cons_succ, List.getElem?_cons_zero]; exact rfl)
        case hQ2u3 => exact fun _ _ _ h => h
        case hw2u3 => rfl
        case hy2u3 => (intro w hSw; (try dsimp only at hSw); go_simp <;> with_reducible rfl)
        try simp only [Act.put, List.setIfInBounds_toArray, List.set_cons_zero, List.set_cons_succ]
        refine wpAnyH_take (i := 3) (oi := ?oi3u4) (v := ?v3u4) ?hi3u4 (by kernel_rfl) (by kernel_rfl) (by kernel_rfl) ?hQ3u4 (Or.inl ⟨?hw3u4, ?hy3u4⟩) hHeld ?rest3u4
        case hi3u4 => (simp only [List.getElem?_toArray, List.getElem?_cons_succ, List.getElem?_cons_zero]; exact rfl)
        case hQ3u4 => exact fun _ _ _ h => h
        case hw3u4 => rfl
        case hy3u4 => (intro w hSw; (try dsimp only at hSw); go_simp <;> with_reducible rfl)
        try simp only [Act.put, List.setIfInBounds_toArray, List.set_cons_zero, List.set_cons_succ]
        refine wpAnyH_take (i := 4) (oi := ?oi4u5) (v := ?v4u5) ?hi4u5 (by kernel_rfl) (by kernel_rfl) (by kernel_rfl) ?hQ4u5 (Or.inl ⟨?hw4u5, ?hy4u5⟩) hHeld ?rest4u5
        case hi4u5 => (simp only [List.getElem?_toArray, List.getElem?_cons_succ, List.getElem?_cons_zero]; exact rfl)
        case hQ4u5 => exact fun _ _ _ h => h
        case hw4u5 => rfl
        case hy4u5 => (intro w hSw; (try dsimp only at hSw); go_simp <;> with_reducible rfl)
        try simp only [Act.put, List.setIfInBounds_toArray, List.set_cons_zero, List.set_cons_succ]
        refine wpAnyH_take (i := 5) (oi := ?oi5u6) (v := ?v5u6) ?hi5u6 (by kernel_rfl) (by kernel_rfl) (by kernel_rfl) ?hQ5u6 (Or.inl ⟨?hw5u6, ?hy5u6⟩) hHeld ?rest5u6
        case hi5u6 => (simp only [List.getElem?_toArray, List.getElem?_cons_succ, List.getElem?_cons_zero]; exact rfl)
        case hQ5u6 => exact fun _ _ _ h => h
        case hw5u6 => rfl
        case hy5u6 => (intro w hSw; (try dsimp only at hSw); go_simp <;> with_reducible rfl)
        try simp only [Act.put, List.setIfInBounds_toArray, List.set_cons_zero, List.set_cons_succ]
        refine wpAnyH_take (i := 6) (oi := ?oi6u7) (v := ?v6u7) ?hi6u7 (by kernel_rfl) (by kernel_rfl) (by kernel_rfl) ?hQ6u7 (Or.inl ⟨?hw6u7, ?hy6u7⟩) hHeld ?rest6u7
        case hi6u7 => (simp only [List.getElem?_toArray, List.getElem?_cons_succ, List.getElem?_cons_zero]; exact rfl)
        case hQ6u7 => exact fun _ _ _ h => h
        case hw6u7 => rfl
        case hy6u7 => (intro w hSw; (try dsimp only at hSw); go_simp <;> with_reducible rfl)
        try simp only [Act.put, List.setIfInBounds_toArray, List.set_cons_zero, List.set_cons_succ]
        refine wpAnyH_take (i := 7) (oi := ?oi7u8) (v := ?v7u8) ?hi7u8 (by kernel_rfl) (by kernel_rfl) (by kernel_rfl) ?hQ7u8 (Or.inl ⟨?hw7u8, ?hy7u8⟩) hHeld ?rest7u8
        case hi7u8 => (simp only [List.getElem?_toArray, List.getElem?_cons_succ, List.getElem?_cons_zero]; exact rfl)
        case hQ7u8 => exact fun _ _ _ h => h
        case hw7u8 => rfl
        case hy7u8 => (intro w hSw; (try dsimp only at hSw); go_simp <;> with_reducible rfl)
        try simp only [Act.put, List.setIfInBounds_toArray, List.set_cons_zero, List.set_cons_succ]
        refine wpAnyH_take (i := 8) (oi := ?oi8u9) (v := ?v8u9) ?hi8u9 (by kernel_rfl) (by kernel_rfl) (by kernel_rfl) ?hQ8u9 (Or.inl ⟨?hw8u9, ?hy8u9⟩) hHeld ?rest8u9
        case hi8u9 => (simp only [List.getElem?_toArray, List.getElem?_cons_succ, List.getElem?_cons_zero]; exact rfl)
        case hQ8u9 => exact fun _ _ _ h => h
        case hw8u9 => rfl
        case hy8u9 => (intro w hSw; (try dsimp only at hSw); go_simp <;> with_reducible rfl)
        try simp only [Act.put, List.setIfInBounds_toArray, List.set_cons_zero, List.set_cons_succ]
        refine wpAnyH_take (i := 9) (oi := ?oi9u10) (v := ?v9u10) ?hi9u10 (by kernel_rfl) (by kernel_rfl) (by kernel_rfl) ?hQ9u10 (Or.inl ⟨?hw9u10, ?hy9u10⟩) hHeld ?rest9u10
        case hi9u10 => (simp only [List.getElem?_toArray, List.getElem?_cons_succ, List.getElem?_cons_zero]; exact rfl)
        case hQ9u10 => exact fun _ _ _ h => h
        case hw9u10 => rfl
        case hy9u10 => (intro w hSw; (try dsimp only at hSw); go_simp <;> with_reducible rfl)
        try simp only [Act.put, List.setIfInBounds_toArray, List.set_cons_zero, List.set_cons_succ]
        refine held_one (i := 10) (o := ?oi10u11) (by kernel_rfl) ?hi10u11 (fun K hK => ?rest10u11)
        case hi10u11 => (simp only [List.getElem?_toArray, List.getElem?_cons_succ, List.getElem?_cons_zero]; exact rfl)
        go_simp
        obtain ⟨s0, s1, sl⟩ := open2 P2s.out
        obtain ⟨u0, u1, u2, ul⟩ := open3 Gcs.out
        have hHeld8 : (fun w' : World => w'.cell? ⟨bl, 1, none⟩ = some (.slice (some ⟨gb, 0, none⟩) m2 d2) ∧ w'.cell? ⟨gc, 2, none⟩ = some (.int .i64 (v : Int))) (Y.setCell ⟨gb, v, none⟩ (.int .i64 (n1 : Int))) := ⟨s1, u2⟩
        refine hK _ _ hHeld8 ?_
        clear hK K hHeld
        have hHeld := hHeld8
        clear hHeld8
        try simp only [Act.put, List.setIfInBounds_toArray, List.set_cons_zero, List.set_cons_succ]
        refine wpAnyH_done (by kernel_rfl) ?_ _
        have hbS : base ≤ (Y.setCell ⟨gb, v, none⟩ (.int .i64 (n1 : Int))).heap.size := by simpa using hbZd
        clear u0 u1 u2 ul hcvd hfvd
        generalize Y.setCell ⟨gb, v, none⟩ (.int .i64 (n1 : Int)) = Z at *
        clear s0 s1 sl hHeld hbZ hn2 hc1 hc2 hal2 P2 P3 P4 HL3
        obtain ⟨A3, n3, c3, B3, m3, d3, p1', p2', p3', p4'⟩ := T1.out.has
        have hlen3 := own0_len p3'
        rw [flatC_len] at hlen3
        have hn3 : n3 ≤ 100000 := by omega
        obtain ⟨r0, r1, rl⟩ := open2 p2'
        have rf := frozen_of p2' 0
        have hc1 := (p3'.sl (by omega)).hcap
        have hc2 := (p3'.sl (by omega)).hmax
        unfold maxLen at hc2
        have hal2 : ∀ o, Below Z.heap.size Z (Z.alloc o) := fun o => (Below.refl _ _).alloc (Nat.le_refl _) _
        have P2 := Lib.hid p2'
        have P3 := Lib.hid p3'
        have P4 := Lib.hid p4'
        clear p2' p3' p4' hlen3 P2s Gcs
        go_wp2_with (first
          | (at_builtin; go_must (refine wpList_append_z rfl (.tmp 36) (.tmp 39) 22 rfl base 68 Try.underlying22 infoS rfl (by omega) rfl (xs := flatC l) (P3.out.below (hal2 (.cells #[.int .i64 1, .string ⟨#[]⟩, .int .i64 (n1 : Int)] 68))) rfl (news := [.int .i64 1, .string ⟨#[]⟩, .int .i64 (n1 : Int)]) (Sl.lit Z _ [_, _, _] 68 3 1 rfl rfl (by simp [maxLen])) (one3 _ _ _) (by omega) (by omega) (by omega) (by simp; omega) ?_); intro A9 d9 w9 hown9 hb9 hap9; obtain ⟨q1, q2, q3⟩ := Ly.grown (.cells #[.int .i64 1, .string ⟨#[]⟩, .int .i64 (n1 : Int)] 68) tLayer_ne.1 tLayer_ne.2.1 T1.out P2.out P3.out P4.out (x := ⟨1, ⟨#[]⟩, (n1 : Int)⟩) (wfS i64_1 (by unfold i64; omega) empty_max) hown9 hap9 hb9 hbS; have Q1 := Lib.hid q1; have Q2 := Lib.hid q2; have Q3 := Lib.hid q3; have x9 := (hap9.old bl (by simp; omega) (own0_ne (P3.out.below (hal2 (.cells #[.int .i64 1, .string ⟨#[]⟩, .int .i64 (n1 : Int)] 68))) ((alloc_past rl).trans P2.out) (by intro cur he; injection he with e1 e2 e3; exact tLayer_ne.1 e2))).trans ((alloc_past rl).trans P2.out); obtain ⟨s0, s1, sl⟩ := open2 x9; have sf := frozen_of x9 0; clear q1 q2 q3 x9 hown9 hap9 hb9))
        go_end0
        refine ⟨rfl, ?_, (HbX.out.mono hb0).trans (T2.out.trans Q2.out), (LKept.below HbX.out hlt.2).trans (T3.out.trans Q3.out)⟩
        rw [hn1eq.out]
        exact Q1.out
    · rw [if_neg hneg]
      have hd : decide (atA a v < 0) = false := by simpa using hneg
      have Hneg := Lib.hid hneg
      clear haw hneg
      clear hk1 hT
      go_enter Try.func55, Try.ntmps55
      go_upto_region 2 with fail
      refine wp_world' (Φ := fun X => Below w.heap.size w X ∧ X.heap.size = w.heap.size + 1 ∧ X.heap[w.heap.size]? = some (.cells #[.int .i64 1, .string ⟨#[]⟩, .int .i64 v] 54 (0, 0))) ⟨hal, by simp, alloc_at rfl⟩ ?_
      rintro X ⟨hbX, hX1, x0⟩
      have HbX := Lib.hid hbX
      have hLX := HL.out.below hbX
      have HLX := Lib.hid hLX
      obtain ⟨gc, hgc⟩ : ∃ gc, gc = w.heap.size := ⟨_, rfl⟩
      rw [← hgc] at x0 hX1 ⊢
      have hgb : gc ≠ bl := by omega
      obtain ⟨z0, z1, z2, zl⟩ := open3 x0
      have HX0 := Lib.hid x0
      have hbX0 : base ≤ X.heap.size := by omega
      have hst := lstands_any base bl l a v X hLX hv9 hbX0 ha
      have Hst := Lib.hid hst
      have hfr := Ly.free_typ hLX x0 (by decide) (by decide) hgb
      have Hfr := Lib.hid hfr
      have hlv := extA_len_le a v
      have Hlv := Lib.hid hlv
      clear y0 y1 hbX hLX x0 e0' e1' e2' hal hgc yl hc1 hc2 hst hfr hlv
      go_wp2_with (first
        | (go_at_call 54; go_must (refine Hst.out.mono ?_); rintro e w3 ⟨rfl, hL3, hb3, hk3⟩; have HL3 := Lib.hid hL3; obtain ⟨A2, n2, c2, B2, m2, d2, p1, p2, p3, p4⟩ := hL3.has; have hlen2 := own0_len p3; have hlen3 := own0_len p4; rw [flatC_len] at hlen2; simp only [List.length_map, Nat.mul_one] at hlen3; have hn2 : n2 ≤ 100000 := (by omega); obtain ⟨r0, r1, rl⟩ := open2 p2; have rf := frozen_of p2 0; have hc1 := (p3.sl (by omega)).hcap; have hc2 := (p3.sl (by omega)).hmax; unfold maxLen at hc2; have hbZ : base ≤ w3.heap.size := Nat.le_trans hbX0 hb3.size; have hx3 := (hk3.free gc Hfr.out).1.trans HX0.out; obtain ⟨v0, v1, v2, vl⟩ := open3 hx3; have hal2 : ∀ o, Below w3.heap.size w3 (w3.alloc o) := (fun o => (Below.refl _ _).alloc (Nat.le_refl _) _); have P2 := Lib.hid p2; have P3 := Lib.hid p3; have P4 := Lib.hid p4; have Hlen3 := Lib.hid hlen3; clear p2 p3 p4 hlen2 hL3 hx3 hlen3)
        | (at_builtin; go_must (refine wpList_append_z rfl (.tmp 36) (.tmp 39) 22 rfl base 68 Try.underlying22 infoS rfl (by omega) rfl (xs := flatC l) (P3.out.below (hal2 (.cells #[.int .i64 1, .string ⟨#[]⟩, .int .i64 (atA a v)] 68))) rfl (news := [.int .i64 1, .string ⟨#[]⟩, .int .i64 (atA a v)]) (Sl.lit w3 _ [_, _, _] 68 3 1 rfl rfl (by simp [maxLen])) (one3 _ _ _) (by omega) (by omega) (by omega) (by simp; omega) ?_); intro A9 d9 w9 hown9 hb9 hap9; obtain ⟨q1, q2, q3⟩ := Ly.grown (.cells #[.int .i64 1, .string ⟨#[]⟩, .int .i64 (atA a v)] 68) tLayer_ne.1 tLayer_ne.2.1 HL3.out P2.out P3.out P4.out (x := ⟨1, ⟨#[]⟩, (atA a v)⟩) (wfS i64_1 Haw.out empty_max) hown9 hap9 hb9 hbZ; have Q1 := Lib.hid q1; have Q2 := Lib.hid q2; have Q3 := Lib.hid q3; have x9 := (hap9.old bl (by simp; omega) (own0_ne (P3.out.below (hal2 (.cells #[.int .i64 1, .string ⟨#[]⟩, .int .i64 (atA a v)] 68))) ((alloc_past rl).trans P2.out) (by intro cur he; injection he with e1 e2 e3; exact tLayer_ne.1 e2))).trans ((alloc_past rl).trans P2.out); obtain ⟨s0, s1, sl⟩ := open2 x9; have sf := frozen_of x9 0; clear q1 q2 q3 x9 hown9 hap9 hb9))
      go_end0
      exact ⟨rfl, Q1.out, (HbX.out.mono hb0).trans (hb3.trans Q2.out), (LKept.below HbX.out hlt.2).trans (hk3.trans Q3.out)⟩
theorem lslot_any (W : World) (base bl : Nat) (l : List C) (a : List Int) (T : Tm) (A : Option Addr) (n cap : Nat) (w : World) (hW : IsC W A n cap T.flat) (hbW : Below W.heap.size W w) (hWb : W.heap.size ≤ base)
    (h : Ly w base bl 77 l a) (hT : T.ok = true) (hl : l.length ≤ 100000) (ha : a.length ≤ 100000) (hb0 : base ≤ w.heap.size) :
    Calls Try.prog 55 #[.pointer (some ⟨bl, 0, none⟩), .slice A n cap] w (RetLy w base bl 77 (l ++ [(slotA T l.length 0 a).1]) (slotA T l.length 0 a).2 (.tuple #[])) := by
  rcases c0_kind (c0_ok hT) with hk | hk | hk
  · exact lslot_v W base bl l a T A n cap w hW hbW hWb h hT hl ha hb0 0 hk
  · exact lslot_i W base bl l a T A n cap w hW hbW hWb h hT hl ha hb0 0 hk
  · exact lslot_f W base bl l a T A n cap w hW hbW hWb h hT hl ha hb0 0 hk
end Go.Proofs.Ytlndjooddkjnoaa
