/- The walk of the document's fun. -/
import Derived.Test.YtlndjooddkjnoaaHM2
import Derived.Test.YtlndjooddkjnoaaHL4
set_option linter.unusedVariables false
set_option linter.unusedSimpArgs false
namespace Go.Proofs.Ytlndjooddkjnoaa
open Go.RowKit

theorem slotA_wf {u : Tm} (ho : u.ok = true) {P q : Nat} {a : List Int} (hP : P ≤ 100000) (hq : q ≤ 1000000) (ha : ∀ x ∈ a, i64 x) : (slotA u P q a).1.wf := by
  cases u with
  | i n => simp [Tm.ok] at ho; exact wfS i64_2 (by unfold i64; omega) empty_max
  | f s us => exact wfS i64_3 (by unfold i64; omega) empty_max
  | v n =>
    rw [slotA_v]
    split
    · exact wfS i64_1 (by unfold i64; omega) empty_max
    · refine wfS i64_1 ?_ empty_max
      unfold atA
      cases hav : a[n.toNat]? with
      | none => exact ⟨by decide, by decide⟩
      | some y => exact ha y (List.mem_of_getElem? hav)
set_option maxRecDepth 100000 in
set_option maxHeartbeats 8000000 in
theorem mfun_any (W : World) (base bl : Nat) (hWb : W.heap.size ≤ base) (N : Nat) : ∀ (T : Tm) (l : List C) (a : List Int) (A : Option Addr) (n cap : Nat) (w : World), T.size ≤ N → T.c0.kind = 3 → IsC W A n cap T.flat → Below W.heap.size W w →
    Ly w base bl 83 l a → T.ok = true → T.size ≤ 200 → l.length + T.hs ≤ 100000 → a.length ≤ 100000 → base ≤ w.heap.size →
    Calls Try.prog 56 #[.pointer (some ⟨bl, 0, none⟩), .slice A n cap] w (RetLy w base bl 83 (l ++ (layA T l.length a).1) (layA T l.length a).2 (.int .i64 l.length)) := by
  induction N with
  | zero => intro T l a A n cap w hN; have := T.size_pos; omega
  | succ N ih =>
    intro T l a A n cap w hN hk3 hW hbW h hT hTs hl ha hb0
    cases T with
    | v x => simp [Tm.c0] at hk3
    | i k => simp [Tm.c0] at hk3
    | f s us =>
      have Ih := Lib.hid ih
      have hpf := parts_flat hT hTs
      have hright := right_flat hT hTs
      have hT2 := hT
      simp only [Tm.ok, Bool.and_eq_true, decide_eq_true_eq] at hT2
      obtain ⟨hnm, h6, hoks⟩ := hT2
      have hsmax : s.size ≤ maxLen := by unfold okName at hnm; simp at hnm; simp [maxLen]; omega
      obtain ⟨b0, off0, rfl, hb00, e0, e1, e2, hn0⟩ := hW.tm0
      obtain ⟨hcW, _⟩ := bcell hbW
      have e1' := (hcW b0 _ hb00).trans e1
      have e2' := (hcW b0 _ hb00).trans e2
      have hbw : b0 < w.heap.size := Nat.lt_of_lt_of_le hb00 hbW.size
      have hn0' : (0 : Int) < (n : Int) := by omega
      have hlt := h.lt
      have HL := Lib.hid h
      obtain ⟨A1, n1, c1, B1, m1, d1, g1, g2, g3, g4⟩ := h.has
      have hlen := own0_len g3
      rw [flatC_len] at hlen
      simp only [Tm.hs] at hl
      have hn1 : n1 ≤ 100000 := by omega
      have Hlen : Hid (l.length = n1) := Lib.hid (by omega)
      have Hl := Lib.hid hl
      obtain ⟨y0, y1, yl⟩ := open2 g2
      have hc1 := (g3.sl (by omega)).hcap
      have hc2 := (g3.sl (by omega)).hmax
      unfold maxLen at hc2
      simp only [Tm.c0] at e1' e2'
      have Hpf := Lib.hid hpf
      have HW := Lib.hid hW
      have HbW := Lib.hid hbW
      clear hcW e0 e1 e2 h g2 g3 g4 hlen hl ih hk3 hW
      have hpw := rParts_w W (some ⟨b0, off0, none⟩) n cap (Tm.f s us).flat w.drew HW.out (HbW.out.trans (show Below W.heap.size w w.drew from (Below.refl _ _).drew)) hright
      rw [Hpf.out] at hpw
      simp only [Tm.args] at hpw
      have Hpw := Lib.hid hpw
      clear hpw hpf
      go_enter Try.func56, Try.ntmps56
      go_upto_region 1 with fail
      refine wp_region_held_drew (S := fun w' => w'.cell? ⟨bl, 0, none⟩ = some (.slice A1 n1 c1)) (by kernel_rfl) ?gs ?gr
      case gs => simp [*]
      case gr =>
        intro hHeld
        have hLd := HL.out.below (show Below w.heap.size w w.drew from (Below.refl _ _).drew)
        have hbd : Below w.heap.size w w.drew := (Below.refl _ _).drew
        have HLd := Lib.hid hLd
        have Hbd := Lib.hid hbd
        have yld : bl < w.drew.heap.size := yl
        have hbd0 : base ≤ w.drew.heap.size := hb0
        have hbwd : b0 < w.drew.heap.size := hbw
        have e1d : w.drew.cell? ⟨b0, off0 + 1, none⟩ = some (.string s) := e1'
        have e2d : w.drew.cell? ⟨b0, off0 + 2, none⟩ = some (.int .i64 us.length) := e2'
        clear hLd hbd y0 y1 yl e1' e2'
        generalize w.drew = Y0 at *

        refine takeH 0 hHeld ?_
        try simp only [Act.put, List.setIfInBounds_toArray, List.set_cons_zero, List.set_cons_succ]
        refine takeH 1 hHeld ?_
        try simp only [Act.put, List.setIfInBounds_toArray, List.set_cons_zero, List.set_cons_succ]
        refine takeH 2 hHeld ?_
        try simp only [Act.put, List.setIfInBounds_toArray, List.set_cons_zero, List.set_cons_succ]
        refine takeH 3 hHeld ?_
        try simp only [Act.put, List.setIfInBounds_toArray, List.set_cons_zero, List.set_cons_succ]
        refine takeH 4 hHeld ?_
        try simp only [Act.put, List.setIfInBounds_toArray, List.set_cons_zero, List.set_cons_succ]
        refine takeH 5 hHeld ?_
        try simp only [Act.put, List.setIfInBounds_toArray, List.set_cons_zero, List.set_cons_succ]
        refine held_one (i := 6) (o := ?oi6u7) (by kernel_rfl) ?hi6u7 (fun K hK => ?rest6u7)
        case hi6u7 => (simp only [List.getElem?_toArray, List.getElem?_cons_succ, List.getElem?_cons_zero]; exact rfl)
        go_simp
        go_at_call 85
        refine Hpw.out.mono ?_
        rintro e w3 ⟨Ap, np, cp, vs, rfl, hlp, hop, hrows, hb3⟩
        have s00 := (hb3.cell (p := ⟨bl, 0, none⟩) yld).trans hHeld
        have s01 := (hb3.cell (p := ⟨b0, off0 + 1, none⟩) hbwd).trans e1d
        have s02 := (hb3.cell (p := ⟨b0, off0 + 2, none⟩) hbwd).trans e2d
        have Hb3 := Lib.hid hb3
        have Hop := Lib.hid hop
        have Hlp0 := Lib.hid hlp
        have Hrows := Lib.hid hrows
        clear hb3 hop hlp hrows e1d e2d
        try go_simp
        have hHeld8 : (fun w' : World => w'.cell? ⟨bl, 0, none⟩ = some (.slice A1 n1 c1)) w3 := s00
        refine hK _ _ hHeld8 ?_
        clear hK K hHeld
        have hHeld := hHeld8
        clear hHeld8
        try simp only [Act.put, List.setIfInBounds_toArray, List.set_cons_zero, List.set_cons_succ]
        refine takeH 7 hHeld ?_
        try simp only [Act.put, List.setIfInBounds_toArray, List.set_cons_zero, List.set_cons_succ]
        refine takeH 8 hHeld ?_
        try simp only [Act.put, List.setIfInBounds_toArray, List.set_cons_zero, List.set_cons_succ]
        refine wpAnyH_done (by kernel_rfl) ?_ _
        have hsp := Sl.own Hop.out (by omega)
        have hlp := Hlp0.out
        rw [List.length_map] at hlp
        have Hlp := Lib.hid hlp
        have hnp6 : np ≤ 6 := by omega
        have hL3 := HLd.out.below Hb3.out
        have hsz3 := Hb3.out.size
        have hfp : ∀ a, Ap = some a → LFree w3 bl a.block := fun a ha => by
          subst ha
          have hlx := Own0.lt Hop.out a rfl
          rcases Hop.out.2 with ⟨hx1, _⟩ | ⟨g, cap', cur, hx1, _, hx2, _⟩
          · cases hx1
          · injection hx1 with hx1
            injection hx1 with hx1
            subst hx1
            exact Ly.free_typ hL3 hx2 (by decide) (by decide) (by have h9 := HLd.out.lt; simp only at hlx; show g ≠ bl; omega)
        have hbw3 : Below base w w3 := (Hbd.out.mono hb0).trans (Hb3.out.mono hbd0)
        have hk3 : LKept w w3 bl := (LKept.below Hbd.out hlt.2).trans (LKept.below Hb3.out yld)
        have Hfp := Lib.hid hfp
        have Hsp := Lib.hid hsp
        have hb30 : base ≤ w3.heap.size := Nat.le_trans hbd0 hsz3
        have hLd := hL3.below (show Below w3.heap.size w3 w3.drew from (Below.refl _ _).drew)
        have hVh : Hid (∀ g : Nat, w3.drew.heap[g]? = w3.heap[g]?) := Lib.hid (fun _ => rfl)
        have HLv := Lib.hid hLd
        have hbv : Below base w w3.drew := hbw3.drew
        have hkv : LKept w w3.drew bl := hk3.trans (LKept.below (show Below w3.heap.size w3 w3.drew from (Below.refl _ _).drew) hL3.lt.2)
        have hfv : ∀ a, Ap = some a → LFree w3.drew bl a.block := fun a ha => ((LKept.below (show Below w3.heap.size w3 w3.drew from (Below.refl _ _).drew) hL3.lt.2).free _ (hfp a ha)).2
        have Hbv := Lib.hid hbv
        have Hkv := Lib.hid hkv
        have Hfv := Lib.hid hfv
        have yld2 : bl < w3.heap.size := hL3.lt.2
        have hbwd2 : b0 < w3.heap.size := by omega
        have hHeldB : (fun w' : World => w'.cell? ⟨bl, 0, none⟩ = some (.slice A1 n1 c1) ∧ w'.cell? ⟨b0, off0 + 1, none⟩ = some (.string s) ∧ w'.cell? ⟨b0, off0 + 2, none⟩ = some (.int .i64 us.length)) w3.drew := ⟨hHeld, s01, s02⟩
        have hyv : bl < w3.drew.heap.size := yld2
        have hb0v : b0 < w3.drew.heap.size := hbwd2
        have hbv0 : base ≤ w3.drew.heap.size := hb30
        have hs3v : w3.heap.size = w3.drew.heap.size := rfl
        clear hlp hsp hL3 hfp hbw3 hk3 hLd hbv hkv hfv hHeld Hfp
        go_upto_region 2 with fail
        clear s00 s01 s02
        refine region_but 18 (fun w' => w'.cell? ⟨bl, 0, none⟩ = some (.slice A1 n1 c1) ∧ w'.cell? ⟨b0, off0 + 1, none⟩ = some (.string s) ∧ w'.cell? ⟨b0, off0 + 2, none⟩ = some (.int .i64 us.length)) (by kernel_rfl) ?_
        have hHeld := hHeldB
        clear hHeldB yld2 hbwd2
        generalize w3.drew = V at *

        refine takeB 0 hHeld ?_
        try simp only [Act.put, List.setIfInBounds_toArray, List.set_cons_zero, List.set_cons_succ]
        refine takeB 1 hHeld ?_
        try simp only [Act.put, List.setIfInBounds_toArray, List.set_cons_zero, List.set_cons_succ]
        refine takeB 2 hHeld ?_
        try simp only [Act.put, List.setIfInBounds_toArray, List.set_cons_zero, List.set_cons_succ]
        refine takeB 3 hHeld ?_
        try simp only [Act.put, List.setIfInBounds_toArray, List.set_cons_zero, List.set_cons_succ]
        refine takeB 4 hHeld ?_
        try simp only [Act.put, List.setIfInBounds_toArray, List.set_cons_zero, List.set_cons_succ]
        refine takeB 5 hHeld ?_
        try simp only [Act.put, List.setIfInBounds_toArray, List.set_cons_zero, List.set_cons_succ]
        refine takeB 6 hHeld ?_
        try simp only [Act.put, List.setIfInBounds_toArray, List.set_cons_zero, List.set_cons_succ]
        refine takeB 7 hHeld ?_
        try simp only [Act.put, List.setIfInBounds_toArray, List.set_cons_zero, List.set_cons_succ]
        refine takeB 8 hHeld ?_
        try simp only [Act.put, List.setIfInBounds_toArray, List.set_cons_zero, List.set_cons_succ]
        refine takeB 9 hHeld ?_
        try simp only [Act.put, List.setIfInBounds_toArray, List.set_cons_zero, List.set_cons_succ]
        refine takeB 10 hHeld ?_
        try simp only [Act.put, List.setIfInBounds_toArray, List.set_cons_zero, List.set_cons_succ]
        refine takeB 11 hHeld ?_
        try simp only [Act.put, List.setIfInBounds_toArray, List.set_cons_zero, List.set_cons_succ]
        refine takeB 12 hHeld ?_
        try simp only [Act.put, List.setIfInBounds_toArray, List.set_cons_zero, List.set_cons_succ]
        refine takeB 13 hHeld ?_
        try simp only [Act.put, List.setIfInBounds_toArray, List.set_cons_zero, List.set_cons_succ]
        refine but_one (i := 14) (o := ?oi14u10) (by kernel_rfl) ?hi14u10 (fun K hK => ?rest14u10)
        case hi14u10 => (simp only [List.getElem?_toArray, List.getElem?_cons_succ, List.getElem?_cons_zero]; exact rfl)
        go_simp
        have hHeld8 : (fun w' : World => w'.cell? ⟨bl, 0, none⟩ = some (.slice A1 n1 c1) ∧ w'.cell? ⟨b0, off0 + 1, none⟩ = some (.string s) ∧ w'.cell? ⟨b0, off0 + 2, none⟩ = some (.int .i64 us.length)) (V.alloc (.cells #[.int .i64 4, .string s, .int .i64 us.length] 68)) := by simp [World.cell?_alloc_some, *]
        refine hK _ _ (.inr hHeld8) ?_
        clear hK K hHeld
        have hHeld := hHeld8
        clear hHeld8
        try simp only [Act.put, List.setIfInBounds_toArray, List.set_cons_zero, List.set_cons_succ]
        have hal2 : Below V.heap.size V (V.alloc (.cells #[.int .i64 4, .string s, .int .i64 us.length] 68)) := (Below.refl _ _).alloc (Nat.le_refl _) _
        obtain ⟨A2, n2, c2, B2, m2, d2, p1, p2, p3, p4⟩ := HLv.out.has
        obtain ⟨r0, r1, rl⟩ := open2 p2
        have r0' := (hHeld.1.symm.trans ((hal2.cell (p := ⟨bl, 0, none⟩) rl).trans r0))
        injection r0' with r0'
        injection r0' with i1 i2 i3
        subst i1; subst i2; subst i3
        refine but_one (i := 15) (o := ?oi15u11) (by kernel_rfl) ?hi15u11 (fun K hK => ?rest15u11)
        case hi15u11 => (simp only [List.getElem?_toArray, List.getElem?_cons_succ, List.getElem?_cons_zero]; exact rfl)
        refine step_append_z (by rfl) (.tmp 21) (.tmp 31) 22 (by rfl) base 68 Try.underlying22 infoS (by rfl) (by omega) (by rfl) (xs := flatC l) ?_ (by rfl) (news := [.int .i64 4, .string s, .int .i64 us.length]) ?_ (one3 _ _ _) (by omega) (by omega) (by omega) (by simp; omega) ?_
        focus (exact p3.below hal2)
        focus (exact Sl.lit V _ [_, _, _] 68 3 1 rfl rfl (by simp [maxLen]))
        intro A9 d9 w9 hown9 hb9 hap9
        obtain ⟨q1, q2, q3⟩ := Ly.grown (.cells #[.int .i64 4, .string s, .int .i64 us.length] 68) tLayer_ne.2.2.1 tLayer_ne.2.2.2.1 HLv.out p2 p3 p4 (x := ⟨4, s, us.length⟩) (wfS i64_4 (by unfold i64; omega) hsmax) hown9 hap9 hb9 hbv0
        have Q1 := Lib.hid q1
        have Q2 := Lib.hid q2
        have Q3 := Lib.hid q3
        have x9 := (hap9.old bl (by simp; omega) (own0_ne (p3.below hal2) ((alloc_past rl).trans p2) (by intro cur he; injection he with e1 e2 e3; exact tLayer_ne.2.2.1 e2))).trans ((alloc_past rl).trans p2)
        obtain ⟨s0, s1, sl⟩ := open2 x9
        have sf := frozen_of x9 0
        have hb0b : b0 < base := Nat.lt_of_lt_of_le hb00 hWb
        have t1 := (hb9.cell (p := ⟨b0, off0 + 1, none⟩) hb0b).trans hHeld.2.1
        have t2 := (hb9.cell (p := ⟨b0, off0 + 2, none⟩) hb0b).trans hHeld.2.2
        clear q1 q2 q3 x9 hown9 hap9 hb9 p2 p3 p4 r0 r1
        have hHeld8 : (fun w' : World => w'.cell? ⟨bl, 0, none⟩ = some (.slice A1 n1 c1) ∧ w'.cell? ⟨b0, off0 + 1, none⟩ = some (.string s) ∧ w'.cell? ⟨b0, off0 + 2, none⟩ = some (.int .i64 us.length)) w9 := ⟨s0, t1, t2⟩
        refine hK _ _ (.inr hHeld8) ?_
        clear hK K hHeld
        have hHeld := hHeld8
        clear hHeld8
        try simp only [Act.put, List.setIfInBounds_toArray, List.set_cons_zero, List.set_cons_succ]
        refine but_one (i := 16) (o := ?oi16u12) (by kernel_rfl) ?hi16u12 (fun K hK => ?rest16u12)
        case hi16u12 => (simp only [List.getElem?_toArray, List.getElem?_cons_succ, List.getElem?_cons_zero]; exact rfl)
        go_simp
        have hHeld8 : (fun w' : World => w'.cell? ⟨bl, 0, none⟩ = some (.slice A1 n1 c1) ∧ w'.cell? ⟨b0, off0 + 1, none⟩ = some (.string s) ∧ w'.cell? ⟨b0, off0 + 2, none⟩ = some (.int .i64 us.length)) w9 := ⟨s0, t1, t2⟩
        refine hK _ _ (.inr hHeld8) ?_
        clear hK K hHeld
        have hHeld := hHeld8
        clear hHeld8
        try simp only [Act.put, List.setIfInBounds_toArray, List.set_cons_zero, List.set_cons_succ]
        refine but_one (i := 17) (o := ?oi17u13) (by kernel_rfl) ?hi17u13 (fun K hK => ?rest17u13)
        case hi17u13 => (simp only [List.getElem?_toArray, List.getElem?_cons_succ, List.getElem?_cons_zero]; exact rfl)
        go_simp
        have hHeld8 : (fun w' : World => w'.cell? ⟨bl, 0, none⟩ = some (.slice A1 n1 c1) ∧ w'.cell? ⟨b0, off0 + 1, none⟩ = some (.string s) ∧ w'.cell? ⟨b0, off0 + 2, none⟩ = some (.int .i64 us.length)) w9 := ⟨s0, t1, t2⟩
        refine hK _ _ (.inr hHeld8) ?_
        clear hK K hHeld
        have hHeld := hHeld8
        clear hHeld8
        try simp only [Act.put, List.setIfInBounds_toArray, List.set_cons_zero, List.set_cons_succ]
        refine but_one (i := 18) (o := ?oi18u14) (by kernel_rfl) ?hi18u14 (fun K hK => ?rest18u14)
        case hi18u14 => (simp only [List.getElem?_toArray, List.getElem?_cons_succ, List.getElem?_cons_zero]; exact rfl)
        go_simp
        refine hK _ _ (.inl rfl) ?_
        clear hK K hHeld
        try simp only [Act.put, List.setIfInBounds_toArray, List.set_cons_zero, List.set_cons_succ]
        refine but_done (by kernel_rfl) ?_ _
        have hbZ := Hbv.out.trans Q2.out
        have hkZ := Hkv.out.trans Q3.out
        have hsZ : w3.heap.size ≤ (w9.setCell ⟨bl, 0, none⟩ (.slice A9 (n1 + 1) d9)).heap.size := by rw [hs3v]; exact Q2.out.size
        have hfZ : ∀ a, Ap = some a → (w9.setCell ⟨bl, 0, none⟩ (.slice A9 (n1 + 1) d9)).heap[a.block]? = w3.heap[a.block]? ∧ LFree (w9.setCell ⟨bl, 0, none⟩ (.slice A9 (n1 + 1) d9)) bl a.block := fun a ha => by
          obtain ⟨f1, f2⟩ := Q3.out.free _ (Hfv.out a ha)
          exact ⟨f1.trans (hVh.out _), f2⟩
        have HbZ := Lib.hid hbZ
        have HkZ := Lib.hid hkZ
        have HfZ := Lib.hid hfZ
        have hstart : (l ++ [⟨4, s, us.length⟩]) ++ (slotsZ (us.drop 0) (l ++ [(⟨4, s, us.length⟩ : C)]).length a).1 = (l ++ [⟨4, s, us.length⟩]) ++ (slotsZ us (l.length + 1) a).1 ∧ (slotsZ (us.drop 0) (l ++ [(⟨4, s, us.length⟩ : C)]).length a).2 = (slotsZ us (l.length + 1) a).2 := by simp
        have Hstart := Lib.hid hstart
        have hws : W.heap.size ≤ w3.heap.size := by omega
        have hrows := Hrows.out
        clear s0 s1 sl sf t1 t2 hbZ hkZ hfZ hstart rl hs3v hyv hb0v hc1 hc2 hal2
        generalize w9.setCell ⟨bl, 0, none⟩ (.slice A9 (n1 + 1) d9) = Z at *
        go_wp2
        go_loopw [7] (fun kv wr => ∃ (k : Nat) (ls : List C) (a' : List Int), k ≤ np ∧ kv = .int .i64 k ∧ Ly wr base bl 83 ls a' ∧ Hid (ls ++ (slotsZ (us.drop k) ls.length a').1 = (l ++ [⟨4, s, us.length⟩]) ++ (slotsZ us (l.length + 1) a).1 ∧ (slotsZ (us.drop k) ls.length a').2 = (slotsZ us (l.length + 1) a).2) ∧ Hid (ls.length = l.length + 1 + k ∧ a'.length ≤ 100000) ∧ Below base w wr ∧ LKept w wr bl ∧ w3.heap.size ≤ wr.heap.size ∧
          (∀ a, Ap = some a → wr.heap[a.block]? = w3.heap[a.block]? ∧ LFree wr bl a.block)) (fun kv _ => np - (intOf kv).toNat)
        case atStart => exact ⟨0, l ++ [⟨4, s, us.length⟩], a, Nat.zero_le _, rfl, Q1.out, Hstart, Lib.hid ⟨by simp, ha⟩, HbZ.out, HkZ.out, hsZ, HfZ.out⟩
        case round =>
          clear Hstart Q1 Q2 Q3 HbZ HkZ HfZ hsZ
          obtain ⟨k, ls, a', hk, rfl, hL2, hres, hlen2, hb2, hK2, hs2, hfp2⟩ := hrel
          by_cases hkn : k < np
          · obtain ⟨u, hu⟩ : ∃ u, us[k]? = some u := ⟨_, List.getElem?_eq_getElem (by have := Hlp.out; omega)⟩
            have hd := drop_get hu
            have hok2 := ok_mem hoks (List.mem_of_getElem? hu)
            obtain ⟨A5, n5, c5, hv5, hc5⟩ := hrows.2 k u.flat (by rw [List.getElem?_map, hu]; rfl)
            obtain ⟨bpp, op_, rfl, hbp, hcp⟩ := Hsp.out.cells (by omega)
            have hcell5 := (World.cell?_of_block (a := ⟨bpp, op_ + k, none⟩) (hfp2 _ rfl).1).trans (hcp k _ hv5)
            have hfree5 := (hfp2 _ rfl).2
            have hbp2 := hfree5.lt
            simp only at hbp2
            have hcap5 := Hsp.out.hcap
            have hWr2 : Below W.heap.size W wr := HbW.out.trans (hb2.mono hWb)
            obtain ⟨A7, n7, c7, B7, m7, d7, f1, f2, f3, f4⟩ := hL2.has
            have hlen7 := own0_len f3
            rw [flatC_len] at hlen7
            have hls7 : Hid ((ls.length : Int) = (n7 : Int)) := Lib.hid (by omega)
            have hn7 : n7 ≤ 100000 := by have := hlen2.out; have := Hl.out; have := Hlp.out; omega
            have hc71 := (f3.sl (by omega)).hcap
            have hc72 := (f3.sl (by omega)).hmax
            unfold maxLen at hc72
            obtain ⟨k0, k1, kl⟩ := open2 f2
            have hln : ls.length = n7 := by omega
            have hLd2 := hL2.below (show Below wr.heap.size wr wr.drew from (Below.refl _ _).drew)
            have hbr0 : base ≤ wr.heap.size := by omega
            have hone := mone_any W base bl ls a' u n7 A5 n5 c5 wr.drew hc5 (hWr2.drew) hWb hLd2 hok2 hn7 hlen2.out.2 (show base ≤ wr.drew.heap.size from hbr0)
            have Hone := Lib.hid hone
            have hkd : LKept wr wr.drew bl := LKept.below (show Below wr.heap.size wr wr.drew from (Below.refl _ _).drew) kl
            have hfd := (hkd.free _ hfree5).2
            have HfreeD := Lib.hid hfd
            have Hkd := Lib.hid hkd
            have HL2 := Lib.hid hL2
            have Hd := Lib.hid hd
            have Hok2 := Lib.hid hok2
            have HLd2 := Lib.hid hLd2
            have Hfp2 := Lib.hid hfp2
            have Hln := Lib.hid hln
            have hbD0 : Below base wr wr.drew := (Below.refl _ _).drew
            clear hd hu hcp hv5 hok2 hone f2 f3 f4 hlen7 hln hLd2 hkd hfd hfree5 hL2 hfp2 k1
            go_upto_region 6 with fail
            refine region_but 20 (fun w' => w'.cell? ⟨bl, 0, none⟩ = some (.slice A7 n7 c7) ∧ w'.cell? ⟨bpp, op_ + k, none⟩ = some (.slice A5 n5 c5)) (by kernel_rfl) ?_
            have hHeld : (fun w' : World => w'.cell? ⟨bl, 0, none⟩ = some (.slice A7 n7 c7) ∧ w'.cell? ⟨bpp, op_ + k, none⟩ = some (.slice A5 n5 c5)) wr.drew := by simp [*]
            have hbD : Below base w wr.drew := hb2.trans hbD0
            have hKD : LKept w wr.drew bl := hK2.trans Hkd.out
            have hsD : w3.heap.size ≤ wr.drew.heap.size := hs2
            have hhD : Hid (∀ g : Nat, wr.drew.heap[g]? = wr.heap[g]?) := Lib.hid (fun _ => rfl)
            have hfD : ∀ a, (some (⟨bpp, op_, none⟩ : Addr)) = some a → wr.drew.heap[a.block]? = w3.heap[a.block]? ∧ LFree wr.drew bl a.block := fun a ha => ⟨(Hfp2.out a ha).1, (Hkd.out.free _ (Hfp2.out a ha).2).2⟩
            have HbD := Lib.hid hbD
            have HKD := Lib.hid hKD
            have HfD := Lib.hid hfD
            have hbrD : base ≤ wr.drew.heap.size := hbr0
            have hbpD : bpp < wr.drew.heap.size := hbp2
            clear hbD hKD hfD Hfp2 Hkd hb2 hK2 hs2 hcell5 k0 kl hbD0 hbr0 HL2 hWr2 hbp2 f1
            generalize wr.drew = D at *

            refine takeB 0 hHeld ?_
            try simp only [Act.put, List.setIfInBounds_toArray, List.set_cons_zero, List.set_cons_succ]
            refine takeB 1 hHeld ?_
            try simp only [Act.put, List.setIfInBounds_toArray, List.set_cons_zero, List.set_cons_succ]
            refine takeB 2 hHeld ?_
            try simp only [Act.put, List.setIfInBounds_toArray, List.set_cons_zero, List.set_cons_succ]
            refine takeB 3 hHeld ?_
            try simp only [Act.put, List.setIfInBounds_toArray, List.set_cons_zero, List.set_cons_succ]
            refine takeB 4 hHeld ?_
            try simp only [Act.put, List.setIfInBounds_toArray, List.set_cons_zero, List.set_cons_succ]
            refine takeB 5 hHeld ?_
            try simp only [Act.put, List.setIfInBounds_toArray, List.set_cons_zero, List.set_cons_succ]
            refine takeB 6 hHeld ?_
            try simp only [Act.put, List.setIfInBounds_toArray, List.set_cons_zero, List.set_cons_succ]
            refine takeB 7 hHeld ?_
            try simp only [Act.put, List.setIfInBounds_toArray, List.set_cons_zero, List.set_cons_succ]
            refine takeB 8 hHeld ?_
            try simp only [Act.put, List.setIfInBounds_toArray, List.set_cons_zero, List.set_cons_succ]
            refine takeB 9 hHeld ?_
            try simp only [Act.put, List.setIfInBounds_toArray, List.set_cons_zero, List.set_cons_succ]
            refine takeB 10 hHeld ?_
            try simp only [Act.put, List.setIfInBounds_toArray, List.set_cons_zero, List.set_cons_succ]
            refine takeB 11 hHeld ?_
            try simp only [Act.put, List.setIfInBounds_toArray, List.set_cons_zero, List.set_cons_succ]
            refine takeB 12 hHeld ?_
            try simp only [Act.put, List.setIfInBounds_toArray, List.set_cons_zero, List.set_cons_succ]
            refine takeB 13 hHeld ?_
            try simp only [Act.put, List.setIfInBounds_toArray, List.set_cons_zero, List.set_cons_succ]
            refine takeB 14 hHeld ?_
            try simp only [Act.put, List.setIfInBounds_toArray, List.set_cons_zero, List.set_cons_succ]
            refine but_one (i := 15) (o := ?oi15u15) (by kernel_rfl) ?hi15u15 (fun K hK => ?rest15u15)
            case hi15u15 => (simp only [List.getElem?_toArray, List.getElem?_cons_succ, List.getElem?_cons_zero]; exact rfl)
            go_simp
            go_at_call 58
            refine Hone.out.mono ?_
            rintro e w5 ⟨rfl, hL5, hb5, hk5, hs5⟩
            have c50 := hs5.trans hHeld.1
            have hf5 := hk5.free _ (HfD.out _ rfl).2
            have c51 := (World.cell?_of_block (a := ⟨bpp, op_ + k, none⟩) hf5.1).trans hHeld.2
            have HL5 := Lib.hid hL5
            have Hb5 := Lib.hid hb5
            have Hk5 := Lib.hid hk5
            have hsz5 := hb5.size
            clear hL5 hb5 hk5 hs5 hf5
            try go_simp
            have hHeld8 : (fun w' : World => w'.cell? ⟨bl, 0, none⟩ = some (.slice A7 n7 c7) ∧ w'.cell? ⟨bpp, op_ + k, none⟩ = some (.slice A5 n5 c5)) w5 := ⟨c50, c51⟩
            refine hK _ _ (.inr hHeld8) ?_
            clear hK K hHeld
            have hHeld := hHeld8
            clear hHeld8
            try simp only [Act.put, List.setIfInBounds_toArray, List.set_cons_zero, List.set_cons_succ]
            have hb50 : base ≤ w5.heap.size := Nat.le_trans hbrD hsz5
            obtain ⟨A2, n2, c2, B2, m2, d2, p1, p2, p3, p4⟩ := HL5.out.has
            obtain ⟨r0, r1, rl⟩ := open2 p2
            have r0' := (c50.symm.trans r0)
            injection r0' with r0'
            injection r0' with i1 i2 i3
            subst i1; subst i2; subst i3
            have hxw : (slotA u n7 0 a').1.wf := slotA_wf Hok2.out hn7 (by omega) (by have := HLd2.out.wfi; exact this)
            have Hxw := Lib.hid hxw
            obtain ⟨cx, hcx⟩ : ∃ cx, cx = (slotA u n7 0 a').1 := ⟨_, rfl⟩
            have Hcx := Lib.hid hcx
            rw [← hcx] at Hxw ⊢
            clear hxw hcx
            obtain ⟨kx, sx, nx_⟩ := cx
            refine but_one (i := 16) (o := ?oi16u16) (by kernel_rfl) ?hi16u16 (fun K hK => ?rest16u16)
            case hi16u16 => (simp only [List.getElem?_toArray, List.getElem?_cons_succ, List.getElem?_cons_zero]; exact rfl)
            have hal2 : Below w5.heap.size w5 (w5.alloc (.cells #[.int .i64 kx, .string sx, .int .i64 nx_] 68)) := (Below.refl _ _).alloc (Nat.le_refl _) _
            try simp only [C.val]
            go_simp
            have hHeld8 : (fun w' : World => w'.cell? ⟨bl, 0, none⟩ = some (.slice A7 n7 c7) ∧ w'.cell? ⟨bpp, op_ + k, none⟩ = some (.slice A5 n5 c5)) (w5.alloc (.cells #[.int .i64 kx, .string sx, .int .i64 nx_] 68)) := ⟨(hal2.cell (p := ⟨bl, 0, none⟩) rl).trans c50, (hal2.cell (p := ⟨bpp, op_ + k, none⟩) (Nat.lt_of_lt_of_le hbpD hsz5)).trans c51⟩
            refine hK _ _ (.inr hHeld8) ?_
            clear hK K hHeld
            have hHeld := hHeld8
            clear hHeld8
            try simp only [Act.put, List.setIfInBounds_toArray, List.set_cons_zero, List.set_cons_succ]
            refine but_one (i := 17) (o := ?oi17u17) (by kernel_rfl) ?hi17u17 (fun K hK => ?rest17u17)
            case hi17u17 => (simp only [List.getElem?_toArray, List.getElem?_cons_succ, List.getElem?_cons_zero]; exact rfl)
            refine step_append_z (by rfl) (.tmp 45) (.tmp 57) 22 (by rfl) base 68 Try.underlying22 infoS (by rfl) (by omega) (by rfl) (xs := flatC ls) ?_ (by rfl) (news := [.int .i64 kx, .string sx, .int .i64 nx_]) ?_ (one3 _ _ _) (by omega) (by omega) (by omega) (by simp; omega) ?_
            focus (exact p3.below hal2)
            focus (exact Sl.lit w5 _ [_, _, _] 68 3 1 rfl rfl (by simp [maxLen]))
            intro A9 d9 w9 hown9 hb9 hap9
            obtain ⟨q1, q2, q3⟩ := Ly.grown (.cells #[.int .i64 kx, .string sx, .int .i64 nx_] 68) tLayer_ne.2.2.1 tLayer_ne.2.2.2.1 HL5.out p2 p3 p4 (x := ⟨kx, sx, nx_⟩) Hxw.out hown9 hap9 hb9 hb50
            have Q1 := Lib.hid q1
            have Q2 := Lib.hid q2
            have Q3 := Lib.hid q3
            have x9 := (hap9.old bl (by simp; omega) (own0_ne (p3.below hal2) ((alloc_past rl).trans p2) (by intro cur he; injection he with e1 e2 e3; exact tLayer_ne.2.2.1 e2))).trans ((alloc_past rl).trans p2)
            obtain ⟨s0, s1, sl⟩ := open2 x9
            have sf := frozen_of x9 0
            have hfp9 := (Q3.out.free _ (Hk5.out.free _ (HfD.out _ rfl).2).2)
            have hne9 : bpp ≠ bl := (Hk5.out.free _ (HfD.out _ rfl).2).2.m
            have t1 : w9.cell? ⟨bpp, op_ + k, none⟩ = some (.slice A5 n5 c5) := by
              have h1 := World.cell?_of_block (a := ⟨bpp, op_ + k, none⟩) hfp9.1
              rw [World.cell?_of_block (a := ⟨bpp, op_ + k, none⟩) (set_other hne9 _)] at h1
              exact h1.trans c51
            clear q1 q2 q3 x9 hown9 hap9 hb9 p2 p3 p4 r0 r1
            have hHeld8 : (fun w' : World => w'.cell? ⟨bl, 0, none⟩ = some (.slice A7 n7 c7) ∧ w'.cell? ⟨bpp, op_ + k, none⟩ = some (.slice A5 n5 c5)) w9 := ⟨s0, t1⟩
            refine hK _ _ (.inr hHeld8) ?_
            clear hK K hHeld
            have hHeld := hHeld8
            clear hHeld8
            try simp only [Act.put, List.setIfInBounds_toArray, List.set_cons_zero, List.set_cons_succ]
            refine but_one (i := 18) (o := ?oi18u18) (by kernel_rfl) ?hi18u18 (fun K hK => ?rest18u18)
            case hi18u18 => (simp only [List.getElem?_toArray, List.getElem?_cons_succ, List.getElem?_cons_zero]; exact rfl)
            go_simp
            have hHeld8 : (fun w' : World => w'.cell? ⟨bl, 0, none⟩ = some (.slice A7 n7 c7) ∧ w'.cell? ⟨bpp, op_ + k, none⟩ = some (.slice A5 n5 c5)) w9 := ⟨s0, t1⟩
            refine hK _ _ (.inr hHeld8) ?_
            clear hK K hHeld
            have hHeld := hHeld8
            clear hHeld8
            try simp only [Act.put, List.setIfInBounds_toArray, List.set_cons_zero, List.set_cons_succ]
            refine but_one (i := 19) (o := ?oi19u19) (by kernel_rfl) ?hi19u19 (fun K hK => ?rest19u19)
            case hi19u19 => (simp only [List.getElem?_toArray, List.getElem?_cons_succ, List.getElem?_cons_zero]; exact rfl)
            go_simp
            have hHeld8 : (fun w' : World => w'.cell? ⟨bl, 0, none⟩ = some (.slice A7 n7 c7) ∧ w'.cell? ⟨bpp, op_ + k, none⟩ = some (.slice A5 n5 c5)) w9 := ⟨s0, t1⟩
            refine hK _ _ (.inr hHeld8) ?_
            clear hK K hHeld
            have hHeld := hHeld8
            clear hHeld8
            try simp only [Act.put, List.setIfInBounds_toArray, List.set_cons_zero, List.set_cons_succ]
            refine but_one (i := 20) (o := ?oi20u20) (by kernel_rfl) ?hi20u20 (fun K hK => ?rest20u20)
            case hi20u20 => (simp only [List.getElem?_toArray, List.getElem?_cons_succ, List.getElem?_cons_zero]; exact rfl)
            go_simp
            refine hK _ _ (.inl rfl) ?_
            clear hK K hHeld
            try simp only [Act.put, List.setIfInBounds_toArray, List.set_cons_zero, List.set_cons_succ]
            refine but_done (by kernel_rfl) ?_ _
            have hbZ := (Hb5.out.trans Q2.out)
            have hkZ := (Hk5.out.trans Q3.out)
            have HbZ := Lib.hid (HbD.out.trans hbZ)
            have HkZ := Lib.hid (HKD.out.trans hkZ)
            have hsZ : w3.heap.size ≤ (w9.setCell ⟨bl, 0, none⟩ (.slice A9 (n7 + 1) d9)).heap.size := Nat.le_trans hsD hbZ.size
            have hfZ : ∀ a, (some (⟨bpp, op_, none⟩ : Addr)) = some a → (w9.setCell ⟨bl, 0, none⟩ (.slice A9 (n7 + 1) d9)).heap[a.block]? = w3.heap[a.block]? ∧ LFree (w9.setCell ⟨bl, 0, none⟩ (.slice A9 (n7 + 1) d9)) bl a.block := fun a ha => by
              obtain ⟨f1, f2⟩ := hkZ.free _ (HfD.out a ha).2
              exact ⟨f1.trans (HfD.out a ha).1, f2⟩
            have HfZ := Lib.hid hfZ
            have HsZ := Lib.hid hsZ
            clear s0 s1 sl sf t1 hbZ hkZ hsZ hfZ rl hfp9 c50 c51
            generalize w9.setCell ⟨bl, 0, none⟩ (.slice A9 (n7 + 1) d9) = Z at *
            go_wp2
            go_roundw
            case rel =>
              refine ⟨k + 1, ls ++ [⟨kx, sx, nx_⟩], (slotA u n7 0 a').2, by omega, by go_num, Q1.out, ?_, ?_, HbZ.out, HkZ.out, HsZ.out, HfZ.out⟩
              · have h1 := hres.out
                rw [Hd.out] at h1
                simp only [slotsZ] at h1
                rw [Hln.out, ← Hcx.out] at h1
                refine Lib.hid ⟨?_, ?_⟩
                · rw [← h1.1, List.length_append, Hln.out]; simp
                · rw [← h1.2, List.length_append, Hln.out]; simp
              · have := hlen2.out
                exact Lib.hid ⟨by simp; omega, slotA_rowlen Hok2.out _ _ this.2⟩
            case measure => simp [intOf]; omega
          · have hknp : k = np := by omega
            subst hknp
            have hfin : Hid (ls = (l ++ [⟨4, s, us.length⟩]) ++ (slotsZ us (l.length + 1) a).1 ∧ a' = (slotsZ us (l.length + 1) a).2) := Lib.hid (by
              have h1 := hres.out
              rw [List.drop_of_length_le (by have := Hlp.out; omega)] at h1
              simpa [slotsZ] using h1)
            have hwl := whole_lay l s us a
            rw [← hfin.out.1, ← hfin.out.2] at hwl
            have Hwl := Lib.hid hwl
            have hP : ls.length = l.length + 1 + k := hlen2.out.1
            have hp1 : Hid (ls.length = l.length + 1 + us.length) := Lib.hid (by have := Hlp.out; omega)
            have hstart2 : fixA (us.drop 0) ls (l.length + 1 + 0) a' = (l ++ (layA (Tm.f s us) l.length a).1, (layA (Tm.f s us) l.length a).2) := by simpa using Hwl.out
            have Hstart2 := Lib.hid hstart2
            have HP := Lib.hid hP
            have hn1l : Hid ((n1 : Int) = (l.length : Int)) := Lib.hid (by have := Hlen.out; omega)
            clear hres hP hstart2 hwl
            go_wp2
            go_loopw [8] (fun iv wr => ∃ (i : Nat) (ls : List C) (a' : List Int), i ≤ k ∧ iv = .int .i64 i ∧ Ly wr base bl 83 ls a' ∧ Hid (fixA (us.drop i) ls (l.length + 1 + i) a' = (l ++ (layA (Tm.f s us) l.length a).1, (layA (Tm.f s us) l.length a).2)) ∧ Hid (ls.length + hss (us.drop i) ≤ 100000 ∧ l.length + 1 + us.length ≤ ls.length ∧ a'.length ≤ 100000) ∧ Below base w wr ∧ LKept w wr bl ∧ w3.heap.size ≤ wr.heap.size ∧
              (∀ a, Ap = some a → wr.heap[a.block]? = w3.heap[a.block]? ∧ LFree wr bl a.block)) (fun iv _ => k - (intOf iv).toNat)
            case atStart => exact ⟨0, ls, a', Nat.zero_le _, rfl, hL2, Hstart2, Lib.hid (by have := hp1.out; have := Hl.out; have := hlen2.out.2; simp; omega), hb2, hK2, hs2, hfp2⟩
            case round =>
              clear hL2 Hstart2 hb2 hK2 hs2 hfp2 Hwl hfin
              obtain ⟨i, ls2, a2, hi, rfl, hL2, hres, hlen3, hb2, hK2, hs2, hfp2⟩ := hrel
              by_cases hin : i < k
              · obtain ⟨u, hu⟩ : ∃ u, us[i]? = some u := ⟨_, List.getElem?_eq_getElem (by have := Hlp.out; omega)⟩
                have hd := drop_get hu
                have hum := List.mem_of_getElem? hu
                have hok2 := ok_mem hoks hum
                have hsz2 := size_mem hum
                obtain ⟨A5, n5, c5, hv5, hc5⟩ := hrows.2 i u.flat (by rw [List.getElem?_map, hu]; rfl)
                obtain ⟨bpp, op_, rfl, hbp, hcp⟩ := Hsp.out.cells (by omega)
                have hcell5 := (World.cell?_of_block (a := ⟨bpp, op_ + i, none⟩) (hfp2 _ rfl).1).trans (hcp i _ hv5)
                have hbp2 := (hfp2 _ rfl).2.lt
                simp only at hbp2
                have hcap5 := Hsp.out.hcap
                have hWr2 : Below W.heap.size W wr := HbW.out.trans (hb2.mono hWb)
                obtain ⟨b5, off5, rfl, hb5', k0, k1, k2, hn5⟩ := hc5.tm0
                have k0' := (hWr2.cell (p := ⟨b5, off5, none⟩) hb5').trans k0
                have hb5r : b5 < wr.heap.size := Nat.lt_of_lt_of_le hb5' hWr2.size
                have hn5' : (0 : Int) < (n5 : Int) := by omega
                have hsz3 : (Tm.f s us).size = 1 + sizes us := rfl
                have Hd := Lib.hid hd
                have Hok2 := Lib.hid hok2
                have hl3 := hlen3.out
                rw [Hd.out] at hl3
                simp only [hss] at hl3
                have Hl3 := Lib.hid hl3
                clear hd hu hcp hv5 hum k0 k1 k2 hl3
                by_cases hk : u.c0.kind = 3
                · have hbk : (u.c0.kind == 3) = true := by simp [hk]
                  have hrec := Ih.out u ls2 a2 _ n5 c5 wr (by omega) hk hc5 hWr2 hL2 hok2 (by omega) (by have := Hl3.out; omega) Hl3.out.2.2 (by omega)
                  have Hrec := Lib.hid hrec
                  have Hk := Lib.hid hk
                  have hls2 : ls2.length ≤ 1000000 := by have := Hl3.out; omega
                  clear hrec hk hok2
                  go_wp2_with fail
                  refine Hrec.out.mono ?_
                  rintro e w5 ⟨rfl, hL5, hb5, hk5⟩
                  have HL5 := Lib.hid hL5
                  obtain ⟨A6, n6, c6, B6, m6, d6, x1, x2, x3, x4⟩ := hL5.has
                  have hidx : l.length + 1 + i < (ls2 ++ (layA u ls2.length a2).1).length := by have := Hl3.out; have := Hlp.out; simp; omega
                  obtain ⟨ga, xv, rfl, hin6, hcx, hfx, hgax⟩ := Ly.slot x3 hidx
                  obtain ⟨z0, z1, zl⟩ := open2 x2
                  have hc61 := (x3.sl (by omega)).hcap
                  have hc62 := (x3.sl (by omega)).hmax
                  unfold maxLen at hc62
                  obtain ⟨q1, q2, q3⟩ := Ly.setn (q := ls2.length) tLayer_ne.2.2.1 tLayer_ne.2.2.2.1 hL5 x2 x3 x4 hidx hls2
                  have hn1e : n1 = l.length := by have := hn1l.out; omega
                  have Q1' := Lib.hid q1
                  have Q2' := Lib.hid (hb2.trans (hb5.trans q2))
                  have Q3' := Lib.hid (hk5.trans q3)
                  have hsum1 : IntKind.i64.wrap ((n1 : Int) + 1 + i) = ((n1 + 1 + i : Nat) : Int) := by rw [IntWalk.i64_in _ (by omega)]; omega
                  have hn6 : n1 + 1 + i < n6 := by omega
                  rw [← hn1e] at hcx hfx Q1' Q2' Q3'
                  have Hn1e := Lib.hid hn1e
                  have hb5s := hb5.size
                  clear q1 q2 q3 x1 x2 x3 x4 hL5 hn1e hidx hin6
                  go_wp2_with fail
                  go_roundw
                  case rel =>
                    refine ⟨i + 1, setN (ls2 ++ (layA u ls2.length a2).1) (n1 + 1 + i) ls2.length, (layA u ls2.length a2).2, by omega, by go_num, Q1'.out, ?_, ?_, Q2'.out, hK2.trans Q3'.out, by simp; omega, fun a ha => ?_⟩
                    · have h1 := hres.out
                      rw [Hd.out] at h1
                      unfold fixA at h1
                      rw [if_pos Hk.out] at h1
                      rw [Hn1e.out]
                      exact Lib.hid h1
                    · have h3 := Hl3.out
                      have h4 := layA_len u ls2.length a2
                      refine Lib.hid ⟨?_, ?_, layA_rowlen u Hok2.out _ _ h3.2.2⟩
                      · rw [setN_len, List.length_append, h4]; omega
                      · rw [setN_len, List.length_append, h4]; omega
                    · obtain ⟨f1, f2⟩ := hfp2 a ha
                      obtain ⟨f3, f4⟩ := Q3'.out.free _ f2
                      exact ⟨f3.trans f1, f4⟩
                  case measure => simp [intOf]; omega
                · have hbk : (u.c0.kind == 3) = false := by simp [hk]
                  have Hk := Lib.hid hk
                  clear hk
                  go_wp2
                  go_roundw
                  case rel =>
                    refine ⟨i + 1, ls2, a2, by omega, by go_num, hL2, ?_, ?_, hb2, hK2, hs2, hfp2⟩
                    · have h1 := hres.out
                      rw [Hd.out] at h1
                      unfold fixA at h1
                      rw [if_neg Hk.out] at h1
                      exact Lib.hid h1
                    · have := Hl3.out
                      exact Lib.hid ⟨by omega, this.2.1, this.2.2⟩
                  case measure => simp [intOf]; omega
              · have hik : i = k := by omega
                subst hik
                have hfin : Hid (ls2 = l ++ (layA (Tm.f s us) l.length a).1 ∧ a2 = (layA (Tm.f s us) l.length a).2) := Lib.hid (by
                  have h1 := hres.out
                  rw [List.drop_of_length_le (by have := Hlp.out; omega)] at h1
                  simp only [fixA] at h1
                  exact ⟨congrArg Prod.fst h1, congrArg Prod.snd h1⟩)
                go_wp2
                go_ret
                refine ⟨ret_int (by rw [hn1l.out]), ?_, hb2, hK2⟩
                rw [← hfin.out.1, ← hfin.out.2]
                exact hL2
end Go.Proofs.Ytlndjooddkjnoaa
