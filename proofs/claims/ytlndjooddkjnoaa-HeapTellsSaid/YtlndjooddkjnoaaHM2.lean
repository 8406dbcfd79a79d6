/- The walk of the document's maker: the slot of a term. -/
import Derived.Test.YtlndjooddkjnoaaHM1
set_option linter.unusedVariables false
set_option linter.unusedSimpArgs false
namespace Go.Proofs.Ytlndjooddkjnoaa
open Go.RowKit

theorem Ly.free_new {w X : World} {base bl g : Nat} {T : TypeId} {l : List C} {a : List Int} (h : Ly w base bl T l a) (hb : Below w.heap.size w X) (hg : w.heap.size ≤ g) (hgX : g < X.heap.size) : LFree X bl g := by
  obtain ⟨A, n, c, B, m, d, k1, k2, k3, k4⟩ := h.has
  have k2' := (hb.block bl (block_lt k2)).trans k2
  have := block_lt k2
  refine ⟨hgX, by omega, ?_, ?_⟩
  · rw [lyB_0 k2']
    intro he
    obtain ⟨a', ha', hg', hc'⟩ := vblkZ_some he
    have := own0_lt k3 hc' a' ha'
    omega
  · rw [lyB_1 k2']
    intro he
    obtain ⟨a', ha', hg', hc'⟩ := vblkZ_some he
    have := own0_lt k4 hc' a' ha'
    omega
/-- a store into a block of another's -/
theorem Ly.other {w : World} {base bl g k : Nat} {T : TypeId} {l : List C} {a : List Int} (h : Ly w base bl T l a) (hf : LFree w bl g) (v : Value) : Ly (w.setCell ⟨g, k, none⟩ v) base bl T l a := by
  obtain ⟨A, n, c, B, m, d, k1, k2, k3, k4⟩ := h.has
  have hg0 := hf.c0
  have hg1 := hf.c1
  rw [lyB_0 k2] at hg0
  rw [lyB_1 k2] at hg1
  have hm := hf.m
  refine ⟨⟨A, n, c, B, m, d, k1, (set_other (fun e => hm e.symm) _).trans k2, own0_at k3 (fun hc a ha => set_other (vblkZ_ne hg0 hc a ha) _), own0_at k4 (fun hc a ha => set_other (vblkZ_ne hg1 hc a ha) _)⟩, h.wfc, h.wfi⟩
theorem LKept.other {w w' : World} {bl g k : Nat} (h : LKept w w' bl) (hw : w.heap.size ≤ g) (hm : g ≠ bl) (v : Value) : LKept w (w'.setCell ⟨g, k, none⟩ v) bl := ⟨fun q hq => by
  obtain ⟨h1, h2⟩ := h.free q hq
  have hne : q ≠ g := by have := hq.lt; omega
  have hs : (w'.setCell ⟨g, k, none⟩ v).heap[bl]? = w'.heap[bl]? := set_other (fun e => hm e.symm) _
  exact ⟨(set_other hne _).trans h1, ⟨by simpa using h2.lt, h2.m, by rw [lyB_same hs]; exact h2.c0, by rw [lyB_same hs]; exact h2.c1⟩⟩⟩
/-- three stores into a block that is new -/
theorem one_end {w w' : World} {base bl g : Nat} {T : TypeId} {l : List C} {a : List Int} (h : Ly w' base bl T l a) (hf : LFree w' bl g) (hb : Below base w w') (hk : LKept w w' bl) (hs : w'.cell? ⟨bl, 0, none⟩ = w.cell? ⟨bl, 0, none⟩) (hw : w.heap.size ≤ g) (hbase : base ≤ w.heap.size) (x y z : Value) :
    Ly (((w'.setCell ⟨g, 0, none⟩ x).setCell ⟨g, 1, none⟩ y).setCell ⟨g, 2, none⟩ z) base bl T l a ∧ Below base w (((w'.setCell ⟨g, 0, none⟩ x).setCell ⟨g, 1, none⟩ y).setCell ⟨g, 2, none⟩ z) ∧
    LKept w (((w'.setCell ⟨g, 0, none⟩ x).setCell ⟨g, 1, none⟩ y).setCell ⟨g, 2, none⟩ z) bl ∧ (((w'.setCell ⟨g, 0, none⟩ x).setCell ⟨g, 1, none⟩ y).setCell ⟨g, 2, none⟩ z).cell? ⟨bl, 0, none⟩ = w.cell? ⟨bl, 0, none⟩ := by
  have hm := hf.m
  have f1 : ∀ v, LFree (w'.setCell ⟨g, 0, none⟩ v) bl g := fun v => ⟨by simpa using hf.lt, hm, by rw [lyB_same (set_other (fun e => hm e.symm) _)]; exact hf.c0, by rw [lyB_same (set_other (fun e => hm e.symm) _)]; exact hf.c1⟩
  have f2 : ∀ v u, LFree ((w'.setCell ⟨g, 0, none⟩ v).setCell ⟨g, 1, none⟩ u) bl g := fun v u => ⟨by simpa using hf.lt, hm, by rw [lyB_same (set_other (fun e => hm e.symm) _)]; exact (f1 v).c0, by rw [lyB_same (set_other (fun e => hm e.symm) _)]; exact (f1 v).c1⟩
  refine ⟨((h.other hf x).other (f1 x) y).other (f2 x y) z, ((hb.setCell (show base ≤ g by omega) _).setCell (show base ≤ g by omega) _).setCell (show base ≤ g by omega) _, ((hk.other hw hm _).other hw hm _).other hw hm _, ?_⟩
  rw [← hs]
  have : ∀ (W0 : World) (k : Nat) (vv : Value), (W0.setCell ⟨g, k, none⟩ vv).cell? ⟨bl, 0, none⟩ = W0.cell? ⟨bl, 0, none⟩ := fun W0 k vv => World.cell?_of_block (a := ⟨bl, 0, none⟩) (set_other (fun e => hm e.symm) _)
  rw [this, this, this]
set_option maxRecDepth 100000 in
set_option maxHeartbeats 4000000 in
theorem mone_any (W : World) (base bl : Nat) (l : List C) (a : List Int) (T : Tm) (P : Nat) (A : Option Addr) (n cap : Nat) (w : World) (hW : IsC W A n cap T.flat) (hbW : Below W.heap.size W w) (hWb : W.heap.size ≤ base)
    (h : Ly w base bl 83 l a) (hT : T.ok = true) (hP : P ≤ 100000) (ha : a.length ≤ 100000) (hb0 : base ≤ w.heap.size) :
    Calls Try.prog 58 #[.pointer (some ⟨bl, 0, none⟩), .slice A n cap, .int .i64 P] w (RetLyZ w base bl 83 l (slotA T P 0 a).2 (slotA T P 0 a).1.val) := by
  obtain ⟨b0, off0, rfl, hb00, e0, e1, e2, hn0⟩ := hW.tm0
  obtain ⟨hcW, _⟩ := bcell hbW
  have e0' := (hcW b0 _ hb00).trans e0
  have e2' := (hcW b0 _ hb00).trans e2
  have hbw : b0 < w.heap.size := Nat.lt_of_lt_of_le hb00 hbW.size
  have hn0' : (0 : Int) < (n : Int) := by omega
  have HL := Lib.hid h
  have hlt := h.lt
  have hX : Below w.heap.size w (w.alloc (.cells #[.int .i64 0, .string ⟨#[]⟩, .int .i64 0] 68)) := (Below.refl _ _).alloc (Nat.le_refl _) _
  have hLX := h.below hX
  have hfX : LFree (w.alloc (.cells #[.int .i64 0, .string ⟨#[]⟩, .int .i64 0] 68)) bl w.heap.size := h.free_new hX (Nat.le_refl _) (by simp)
  have hkX : LKept w (w.alloc (.cells #[.int .i64 0, .string ⟨#[]⟩, .int .i64 0] 68)) bl := LKept.below hX hlt.2
  have hsX : (w.alloc (.cells #[.int .i64 0, .string ⟨#[]⟩, .int .i64 0] 68)).cell? ⟨bl, 0, none⟩ = w.cell? ⟨bl, 0, none⟩ := hX.cell (p := ⟨bl, 0, none⟩) hlt.2
  have Hnew := Lib.hid (fun (o : Obj) => (⟨HL.out.below ((Below.refl _ _).alloc (Nat.le_refl _) o), ((Below.refl _ _).alloc (Nat.le_refl _) o).mono hb0, LKept.below ((Below.refl _ _).alloc (Nat.le_refl _) o) hlt.2, ((Below.refl w.heap.size w).alloc (Nat.le_refl _) o).cell (p := ⟨bl, 0, none⟩) hlt.2⟩ : Ly (w.alloc o) base bl 83 l a ∧ Below base w (w.alloc o) ∧ LKept w (w.alloc o) bl ∧ (w.alloc o).cell? ⟨bl, 0, none⟩ = w.cell? ⟨bl, 0, none⟩))
  clear hcW e0 e1 e2 h
  cases T with
  | i k =>
    simp only [Tm.c0] at e0' e2'
    clear hLX hfX hkX hsX
    go_enter Try.func58, Try.ntmps58
    go_wp2
    refine bodyPost_ret (v := .agg #[.int .i64 2, .string ⟨#[]⟩, .int .i64 k]) (by simp [results, Try.results58, go_sem, *]) rfl ?_
    obtain ⟨q1, q2, q3, q4⟩ := Hnew.out (.cells #[.int .i64 2, .string ⟨#[]⟩, .int .i64 k] 68)
    exact ⟨rfl, q1, q2, q3, q4⟩
  | f s us =>
    simp only [Tm.c0] at e0' e2'
    clear hLX hfX hkX hsX
    go_enter Try.func58, Try.ntmps58
    go_wp2
    refine bodyPost_ret (v := .agg #[.int .i64 3, .string ⟨#[]⟩, .int .i64 0]) (by simp [results, Try.results58, go_sem, *]) rfl ?_
    obtain ⟨q1, q2, q3, q4⟩ := Hnew.out (.cells #[.int .i64 3, .string ⟨#[]⟩, .int .i64 0] 68)
    exact ⟨rfl, q1, q2, q3, q4⟩
  | v x =>
    simp [Tm.ok] at hT
    obtain ⟨v, rfl⟩ : ∃ v : Nat, x = v := ⟨x.toNat, by omega⟩
    have hv9 : v ≤ 999 := by omega
    simp only [Tm.c0] at e0' e2'
    have haw : i64 (atA a v) := by
      unfold atA
      cases hav : a[v]? with
      | none => exact ⟨by decide, by decide⟩
      | some y => exact HL.out.wfi y (List.mem_of_getElem? hav)
    have Haw := Lib.hid haw
    have hst := mvariable_any base bl l a v _ hLX hv9 (Nat.le_trans hb0 hX.size) ha
    have Hst := Lib.hid hst
    have Hf := Lib.hid hfX
    have Hk := Lib.hid hkX
    have Hs := Lib.hid hsX
    have HX := Lib.hid hX
    rw [slotA_v]
    simp only [Int.toNat_natCast]
    clear hT haw hst hLX hfX hkX hsX Hnew hX
    by_cases hneg : atA a v < 0
    · rw [if_pos hneg]
      have hd : decide (atA a v < 0) = true := by simpa using hneg
      have Hneg := Lib.hid hneg
      go_enter Try.func58, Try.ntmps58
      go_upto_region 9 with (first | (go_at_call 57; go_must (refine Hst.out.mono ?_); rintro e w3 ⟨rfl, hL3, hb3, hk3, hs3⟩; have HL3 := Lib.hid hL3; have Hk3 := Lib.hid hk3; have Hs3 := Lib.hid hs3; clear hL3 hk3 hs3))
      have hx3 := (Hk3.out.free _ Hf.out).1.trans (alloc_at rfl)
      have hf3 := (Hk3.out.free _ Hf.out).2
      obtain ⟨A2, n2, c2, B2, m2, d2, p1, p2, p3, p4⟩ := HL3.out.has
      have hlen3 := own0_len p4
      simp at hlen3
      have hvlt := extA_len a v
      obtain ⟨gb, hgbB, hown1⟩ : ∃ gb, B2 = some ⟨gb, 0, none⟩ ∧ w3.ownsRow base 3 1 (.slice (some ⟨gb, 0, none⟩) m2 d2) m2 ((extA a v).map (Value.int .i64)) := by
        rcases p4 with ⟨A', he, h1, h2⟩ | h
        · omega
        · obtain ⟨g, cap', hv', _⟩ := h.form (by omega)
          injection hv' with hv'
          subst hv'
          exact ⟨g, rfl, h⟩
      subst hgbB
      have hvm : v < m2 := by omega
      have hd2 : 0 < d2 := by have := (p4.sl (by omega)).hcap; omega
      have hget : ((extA a v).map (Value.int .i64))[v]? = some (.int .i64 (atA a v)) := by rw [List.getElem?_map, extA_get]; rfl
      have hcv := (hown1.cellAt v (by omega)).trans hget
      have hfv := hown1.frozenAt v
      obtain ⟨hgb1, hgb2⟩ := hown1.lt gb rfl
      have hbd3 : Below w3.heap.size w3 w3.drew := (Below.refl _ _).drew
      have hLd := HL3.out.below hbd3
      have p2d : w3.drew.heap[bl]? = some (.cells #[.slice A2 n2 c2, .slice (some ⟨gb, 0, none⟩) m2 d2] 83 (0, 0)) := p2
      obtain ⟨t1, t2, t3⟩ := Ly.set1 (x := (P : Int)) tLayer_ne.2.2.1 tLayer_ne.2.2.2.1 hLd p2d (p3.below hbd3) (p4.below hbd3) hvlt (by unfold i64; omega)
      have hgbl : gb ≠ bl := fun e => own0_ne p4 p2 (by intro cur he; injection he with e1 e2 e3; exact tLayer_ne.2.2.2.1 e2) hd2 _ rfl e
      have hgbg : gb ≠ w.heap.size := fun e => own0_ne p4 hx3 (by intro cur he; injection he with e1 e2 e3; exact absurd e2 (by decide)) hd2 _ rfl e
      have hf4 : LFree (w3.drew.setCell ⟨gb, v, none⟩ (.int .i64 (P : Int))) bl w.heap.size := (t3.free _ ((LKept.below hbd3 (block_lt p2)).free _ hf3).2).2
      have hx4 : (w3.drew.setCell ⟨gb, v, none⟩ (.int .i64 (P : Int))).heap[w.heap.size]? = some (.cells #[.int .i64 0, .string ⟨#[]⟩, .int .i64 0] 68 (0, 0)) := (set_other (fun e => hgbg e.symm) _).trans hx3
      have hs4 : (w3.drew.setCell ⟨gb, v, none⟩ (.int .i64 (P : Int))).cell? ⟨bl, 0, none⟩ = w.cell? ⟨bl, 0, none⟩ := (World.cell?_of_block (a := ⟨bl, 0, none⟩) (set_other (fun e => hgbl e.symm) _)).trans (Hs3.out.trans Hs.out)
      have Hone := Lib.hid (fun x y z => one_end t1 hf4 ((HX.out.mono hb0).trans (hb3.trans ((hbd3.mono (Nat.le_trans hb0 (Nat.le_trans (by simp) hb3.size))).trans t2))) (Hk.out.trans (Hk3.out.trans ((LKept.below hbd3 (block_lt p2)).trans t3))) hs4 (Nat.le_refl _) hb0 x y z)
      have e23 := (hb3.cell (p := ⟨b0, off0 + 2, none⟩) (show b0 < base by omega)).trans ((HX.out.cell (p := ⟨b0, off0 + 2, none⟩) hbw).trans e2')
      have s1 := cells_of p2 1
      simp at s1
      have sl := block_lt p2
      have hb03 : b0 < w3.heap.size := by have := hb3.size; simp at this; omega
      have P2s : Hid ((w3.drew.setCell ⟨gb, v, none⟩ (.int .i64 (P : Int))).cell? ⟨bl, 1, none⟩ = some (.slice (some ⟨gb, 0, none⟩) m2 d2)) := Lib.hid ((World.cell?_of_block (a := ⟨bl, 1, none⟩) (set_other (fun e => hgbl e.symm) _)).trans s1)
      have e24 : Hid ((w3.drew.setCell ⟨gb, v, none⟩ (.int .i64 (P : Int))).cell? ⟨b0, off0 + 2, none⟩ = some (.int .i64 (v : Int))) := Lib.hid ((World.cell?_of_block (a := ⟨b0, off0 + 2, none⟩) (set_other (show b0 ≠ gb by omega) _)).trans e23)
      have Hx4 := Lib.hid hx4
      have hcvd : w3.drew.cell? ⟨gb, v, none⟩ = some (.int .i64 (atA a v)) := hcv
      have hfvd : w3.drew.frozen? ⟨gb, v, none⟩ = false := hfv
      have hgbd : gb < w3.drew.heap.size := hgb2
      have hcapB := (p4.sl (by omega)).hcap
      have hmaxB := (p4.sl (by omega)).hmax
      unfold maxLen at hmaxB
      clear hx3 hf3 p2 p3 p4 hlen3 hown1 hget hcv hfv hLd p2d t1 t2 t3 hf4 hx4 hs4 HL3 Hk3 Hs3
      refine wp_region_held_drew (S := fun w' => w'.cell? ⟨bl, 1, none⟩ = some (.slice (some ⟨gb, 0, none⟩) m2 d2) ∧ w'.cell? ⟨b0, off0 + 2, none⟩ = some (.int .i64 (v : Int))) (by kernel_rfl) ?gs ?gr
      case gs => simp [*]
      case gr =>
        intro hHeld
        clear s1 sl hb03 e23 hbd3 hgb2
        generalize w3.drew = Y at *
        refine takeH 0 hHeld ?_
        try simp only [Act.put, List.setIfInBounds_toArray, List.set_cons_zero, List.set_cons_succ]
        refine takeH 1 hHeld ?_
        try simp only [Act.put, List.setIfInBounds_toArray, List.set_cons_zero, List.set_cons_succ]
        refine takeH 2 hHeld ?_
        try simp only [Act.put, List.setIfInBounds_toArray, List.set_cons_zero, List.set_cons_succ]
        refine takeH 3 hHeld ?_
        try simp only [Act.put, List.setIfInBounds_toArray, List.set_cons_zero, List.set_cons_succ]
        refine takeH 4 hHeld ?_
        try simp only [Act.put, List.setIfInBounds_toArray, List.set_cons_zero, List.set_cons_succ]
        refine takeH 5 hHeld ?_
        try simp only [Act.put, List.setIfInBounds_toArray, List.set_cons_zero, List.set_cons_succ]
        refine takeH 6 hHeld ?_
        try simp only [Act.put, List.setIfInBounds_toArray, List.set_cons_zero, List.set_cons_succ]
        refine takeH 7 hHeld ?_
        try simp only [Act.put, List.setIfInBounds_toArray, List.set_cons_zero, List.set_cons_succ]
        refine takeH 8 hHeld ?_
        try simp only [Act.put, List.setIfInBounds_toArray, List.set_cons_zero, List.set_cons_succ]
        refine takeH 9 hHeld ?_
        try simp only [Act.put, List.setIfInBounds_toArray, List.set_cons_zero, List.set_cons_succ]
        refine held_one (i := 10) (o := ?oi10u11) (by kernel_rfl) ?hi10u11 (fun K hK => ?rest10u11)
        case hi10u11 => (simp only [List.getElem?_toArray, List.getElem?_cons_succ, List.getElem?_cons_zero]; exact rfl)
        go_simp
        have hHeld8 : (fun w' : World => w'.cell? ⟨bl, 1, none⟩ = some (.slice (some ⟨gb, 0, none⟩) m2 d2) ∧ w'.cell? ⟨b0, off0 + 2, none⟩ = some (.int .i64 (v : Int))) (Y.setCell ⟨gb, v, none⟩ (.int .i64 (P : Int))) := ⟨P2s.out, e24.out⟩
        refine hK _ _ hHeld8 ?_
        clear hK K hHeld
        have hHeld := hHeld8
        clear hHeld8
        try simp only [Act.put, List.setIfInBounds_toArray, List.set_cons_zero, List.set_cons_succ]
        refine wpAnyH_done (by kernel_rfl) ?_ _
        obtain ⟨v0, v1, v2, vl⟩ := open3 Hx4.out
        have vf0 := frozen_of Hx4.out 0
        have vf1 := frozen_of Hx4.out 1
        have vf2 := frozen_of Hx4.out 2
        clear hHeld hcvd hfvd P2s e24
        generalize Y.setCell ⟨gb, v, none⟩ (.int .i64 (P : Int)) = Z at *
        go_wp2
        refine bodyPost_ret (v := .agg #[.int .i64 1, .string ⟨#[]⟩, .int .i64 P]) (by simp [results, Try.results58, go_sem, *]) rfl ?_
        obtain ⟨q1, q2, q3, q4⟩ := Hone.out (.int .i64 1) (.string ⟨#[]⟩) (.int .i64 P)
        exact ⟨rfl, q1, q2, q3, q4⟩
    · rw [if_neg hneg]
      have hd : decide (atA a v < 0) = false := by simpa using hneg
      have Hneg := Lib.hid hneg
      clear hneg
      go_enter Try.func58, Try.ntmps58
      go_wp2_with (first | (go_at_call 57; go_must (refine Hst.out.mono ?_); rintro e w3 ⟨rfl, hL3, hb3, hk3, hs3⟩; have x3 := (hk3.free _ Hf.out).1.trans (alloc_at rfl); obtain ⟨v0, v1, v2, vl⟩ := open3 x3; have vf0 := frozen_of x3 0; have vf1 := frozen_of x3 1; have vf2 := frozen_of x3 2; have Hone := Lib.hid (fun x y z => one_end hL3 (hk3.free _ Hf.out).2 ((HX.out.mono hb0).trans hb3) (Hk.out.trans hk3) (hs3.trans Hs.out) (Nat.le_refl _) hb0 x y z); clear hL3 hk3 hs3 x3))
      refine bodyPost_ret (v := .agg #[.int .i64 1, .string ⟨#[]⟩, .int .i64 (atA a v)]) (by simp [results, Try.results58, go_sem, *]) rfl ?_
      obtain ⟨q1, q2, q3, q4⟩ := Hone.out (.int .i64 1) (.string ⟨#[]⟩) (.int .i64 (atA a v))
      exact ⟨rfl, q1, q2, q3, q4⟩
end Go.Proofs.Ytlndjooddkjnoaa
