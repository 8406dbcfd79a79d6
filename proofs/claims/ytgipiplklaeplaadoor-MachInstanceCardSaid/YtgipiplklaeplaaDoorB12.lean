/- Texts of this proof that belong together: words of memory, plain laws, walks. -/
import Derived.Laws.EntriesVeiled
import Derived.Test.YtgipiplklaeplaaDoorB09
import Derived.Test.YtgipiplklaeplaaDoorB10
import Derived.Test.YtgipiplklaeplaaDoorB11
set_option linter.unusedVariables false
set_option linter.unusedSimpArgs false
namespace Go.Proofs.YtgipiplklaeplaaDoor
open Go.RowKit
theorem flatC_setN : ∀ (ls : List C) (i q : Nat), i < ls.length → (flatC ls).set (i * 3 + 2) (.int .i64 (q : Int)) = flatC (setN ls i q)
 | [], i, q, h => by simp at h
 | c :: ls, 0, q, h => by simp [flatC, setN, sAt, C.flat]
 | c :: ls, i + 1, q, h => by
  have ih := flatC_setN ls i q (by simpa using h)
  have e : setN (c :: ls) (i + 1) q = c :: setN ls i q := by simp [setN, sAt]
  rw [e]
  have e2 : (i + 1) * 3 + 2 = (i * 3 + 2) + 3 := by omega
  rw [e2]
  simp only [flatC, List.flatMap_cons, C.flat, List.cons_append, List.nil_append, List.set_cons_succ] at ih ⊢
  rw [ih]
theorem setN_wf {ls : List C} {i q : Nat} (h : ∀ c ∈ ls, c.wf) (hi : i < ls.length) (hq : q ≤ 1000000) : ∀ c ∈ setN ls i q, c.wf := by
 intro c hc
 rcases List.mem_or_eq_of_mem_set hc with h1 | h1
 ·exact h c h1
 ·rw [h1]
  have := h (sAt ls i) (List.mem_of_getElem? (sAt_some hi))
  exact ⟨this.kind, by unfold i64; simp; omega, this.name⟩
theorem Ly.setn {w : World} {base bl : Nat} {T : TypeId} {l : List C} {a : List Int} {B : Option Addr} {n c m d ga i q : Nat} (hTs : T ≠ 90) (hTi : T ≠ 3)
  (hL : Ly w base bl T l a) (h2 : w.heap[bl]? = some (.cells #[.slice (some ⟨ga, 0, none⟩) n c, .slice B m d] T (0, 0))) (h3 : Own0 w base 90 3 (.slice (some ⟨ga, 0, none⟩) n c) n (flatC l)) (h4 : Own0 w base 3 1 (.slice B m d) m (a.map (Value.int .i64)))
  (hv : i < l.length) (hq : q ≤ 1000000) : Ly (w.setCell ⟨ga, i * 3 + 2, none⟩ (.int .i64 (q : Int))) base bl T (setN l i q) a ∧ Below base w (w.setCell ⟨ga, i * 3 + 2, none⟩ (.int .i64 (q : Int))) ∧ LKept w (w.setCell ⟨ga, i * 3 + 2, none⟩ (.int .i64 (q : Int))) bl := by
 have hml := own0_len h3
 rw [flatC_len] at hml
 obtain ⟨s1, s2, s3⟩ := own0_sets (i := i * 3 + 2) h3 (by omega) (.int .i64 (q : Int))
 have hd : 0 < c := by have := (h3.sl (by omega)).hcap; omega
 have nA : ga ≠ bl := fun e => own0_ne h3 h2 (by intro cur he; injection he with e1 e2 e3; exact hTs e2) hd _ rfl e
 have hnew : (w.setCell ⟨ga, i * 3 + 2, none⟩ (.int .i64 (q : Int))).heap[bl]? = some (.cells #[.slice (some ⟨ga, 0, none⟩) n c, .slice B m d] T (0, 0)) := (set_other (fun e => nA e.symm) _).trans h2
 have nB : 0 < d → ∀ b, B = some b → b.block ≠ ga := by
  intro hc b hb he
  obtain ⟨_, cur, g1⟩ := own0_typ h3 hd _ rfl
  obtain ⟨_, cur', g2⟩ := own0_typ h4 hc b hb
  rw [he] at g2
  simp only at g1
  rw [g1] at g2
  injection g2 with g2
  injection g2 with e1 e2 e3
  exact tLayer_ne.2.2 e2
 rw [flatC_setN l i q hv] at s1
 refine ⟨⟨⟨some ⟨ga, 0, none⟩, n, c, B, m, d, hL.lt.1, hnew, s1, own0_at h4 (fun hc a ha => set_other (nB hc a ha) _)⟩, setN_wf hL.wfc hv hq, hL.wfi⟩, Below.setCell (p := ⟨ga, i * 3 + 2, none⟩) (Below.refl base w) s3 _, ⟨fun g hg => ?_⟩⟩
 have hg0 := hg.c0
 have hg1 := hg.c1
 rw [lyB_0 h2] at hg0
 rw [lyB_1 h2] at hg1
 have hgg : g ≠ ga := fun e => vblkZ_ne hg0 hd _ rfl e.symm
 exact ⟨set_other hgg _, ⟨by simpa using hg.lt, hg.m, by rw [lyB_0 hnew]; exact hg0, by rw [lyB_1 hnew]; exact hg1⟩⟩
theorem Ly.slot {w : World} {base : Nat} {l : List C} {A : Option Addr} {n c i : Nat} (h3 : Own0 w base 90 3 (.slice A n c) n (flatC l)) (hi : i < l.length) :
  ∃ ga x, A = some ⟨ga, 0, none⟩ ∧ i < n ∧ w.cell? ⟨ga, i * 3 + 2, none⟩ = some (.int .i64 x) ∧ w.frozen? ⟨ga, i * 3 + 2, none⟩ = false ∧ ga < w.heap.size := by
 have hml := own0_len h3
 rw [flatC_len] at hml
 rcases h3 with ⟨A', he, h1, h2⟩ | h
 ·omega
 ·obtain ⟨g, cap', hv', _⟩ := h.form (by omega)
  injection hv' with hv'
  subst hv'
  obtain ⟨_, _, f2⟩ := flatC_get l i _ (sAt_some hi)
  exact ⟨g, _, rfl, by omega, (h.cellAt (i * 3 + 2) (by omega)).trans f2, h.frozenAt _, (h.lt g rfl).2⟩
set_option maxRecDepth 100000 in
set_option maxHeartbeats 8000000 in
theorem lwhole_any (W : World) (base bl : Nat) (hWb : W.heap.size ≤ base) (N : Nat) : ∀ (T : Tm) (l : List C) (a : List Int) (A : Option Addr) (n cap : Nat) (w : World), T.size ≤ N → T.c0.kind = 3 → IsC W A n cap T.flat → Below W.heap.size W w →
  Ly w base bl 136 l a → T.ok = true → T.size ≤ 200 → l.length + T.hs ≤ 100000 → a.length ≤ 100000 → base ≤ w.heap.size →
  Calls Tryd.prog 76 #[.pointer (some ⟨bl, 0, none⟩), .slice A n cap] w (RetLy w base bl 136 (l ++ (layA T l.length a).1) (layA T l.length a).2 (.int .i64 l.length)) := by
 induction N with
 | zero => intro T l a A n cap w hN; have := T.size_pos; omega
 | succ N ih =>
  intro T l a A n cap w hN hk3 hW hbW h hT hTs hl ha hb0
  cases T with
  | v x => simp [Tm.c0] at hk3
  | i k => simp [Tm.c0] at hk3
  | f s us =>
   have Ih := Lib.hid ih
   have hmf : ∀ (fn : Fn) (first cap : Array Value) (w : World), (Instr.makeFunc fn first cap).run Tryd.prog w = .ok (.func fn first cap) w := fun _ _ _ _ => rfl
   have Hmf := Lib.hid hmf
   have hpf := parts_flat hT hTs
   have hright := right_flat hT hTs
   have hT2 := hT
   simp only [Tm.ok, Bool.and_eq_true, decide_eq_true_eq] at hT2
   obtain ⟨hnm, h6, hoks⟩ := hT2
   have hsmax : s.size ≤ maxLen := by unfold okName at hnm; simp at hnm; simp [maxLen]; omega
   obtain ⟨b0, off0, rfl, hb00, e0, e1, e2, hn0⟩ := hW.tm0
   obtain ⟨hcW, _⟩ := bcell hbW
   have e1' := (hcW b0 _ hb00).trans e1
   have e2' := (hcW b0 _ hb00).trans e2
   have hbw : b0 < w.heap.size := Nat.lt_of_lt_of_le hb00 hbW.size
   have hn0' : (0 : Int) < (n : Int) := by omega
   have hlt := h.lt
   have HL := Lib.hid h
   obtain ⟨A1, n1, c1, B1, m1, d1, g1, g2, g3, g4⟩ := h.has
   have hlen := own0_len g3
   rw [flatC_len] at hlen
   simp only [Tm.hs] at hl
   have hn1 : n1 ≤ 100000 := by omega
   have Hlen : Hid (l.length = n1) := Lib.hid (by omega)
   have Hl := Lib.hid hl
   obtain ⟨y0, y1, yl⟩ := open2 g2
   have hc1 := (g3.sl (by omega)).hcap
   have hc2 := (g3.sl (by omega)).hmax
   unfold maxLen at hc2
   simp only [Tm.c0] at e1' e2'
   have Hpf := Lib.hid hpf
   have HW := Lib.hid hW
   have HbW := Lib.hid hbW
   clear hcW e0 e1 e2 h g2 g3 g4 hlen hl ih hmf hpf hk3 hW
   go_enter Tryd.func76, Tryd.ntmps76
   go_upto_region 2 with fail
   refine region_but 18 (fun w' => w'.cell? ⟨bl, 0, none⟩ = some (.slice A1 n1 c1) ∧ w'.cell? ⟨b0, off0 + 1, none⟩ = some (.string s) ∧ w'.cell? ⟨b0, off0 + 2, none⟩ = some (.int .i64 us.length)) (by kernel_rfl) ?_
   have hHeld : (fun w' : World => w'.cell? ⟨bl, 0, none⟩ = some (.slice A1 n1 c1) ∧ w'.cell? ⟨b0, off0 + 1, none⟩ = some (.string s) ∧ w'.cell? ⟨b0, off0 + 2, none⟩ = some (.int .i64 us.length)) w.drew := by simp [*]
   have hLd := HL.out.below (show Below w.heap.size w w.drew from (Below.refl _ _).drew)
   have hbd : Below w.heap.size w w.drew := (Below.refl _ _).drew
   have HLd := Lib.hid hLd
   have Hbd := Lib.hid hbd
   have yld : bl < w.drew.heap.size := yl
   have hbd0 : base ≤ w.drew.heap.size := hb0
   have hbwd : b0 < w.drew.heap.size := hbw
   clear hLd hbd y0 y1 yl e1' e2'
   generalize w.drew = Y at *
   refine stepB 0 hHeld ?_
   refine stepB 1 hHeld ?_
   refine stepB 2 hHeld ?_
   refine stepB 3 hHeld ?_
   refine stepB 4 hHeld ?_
   refine stepB 5 hHeld ?_
   refine stepB 6 hHeld ?_
   refine stepB 7 hHeld ?_
   refine stepB 8 hHeld ?_
   refine stepB 9 hHeld ?_
   refine stepB 10 hHeld ?_
   refine stepB 11 hHeld ?_
   refine stepB 12 hHeld ?_
   refine stepB 13 hHeld ?_
   refine oneB 14 (fun K hK => ?_)
   go_simp
   have hHeld8 : (fun w' : World => w'.cell? ⟨bl, 0, none⟩ = some (.slice A1 n1 c1) ∧ w'.cell? ⟨b0, off0 + 1, none⟩ = some (.string s) ∧ w'.cell? ⟨b0, off0 + 2, none⟩ = some (.int .i64 us.length)) (Y.alloc (.cells #[.int .i64 4, .string s, .int .i64 us.length] 90)) := by simp [World.cell?_alloc_some, *]
   refine hK _ _ (.inr hHeld8) ?_
   clear hK K hHeld
   have hHeld := hHeld8
   clear hHeld8
   try simp only [Act.put, sA, sZ, sS]
   have hal2 : Below Y.heap.size Y (Y.alloc (.cells #[.int .i64 4, .string s, .int .i64 us.length] 90)) := (Below.refl _ _).alloc (Nat.le_refl _) _
   obtain ⟨A2, n2, c2, B2, m2, d2, p1, p2, p3, p4⟩ := HLd.out.has
   obtain ⟨r0, r1, rl⟩ := open2 p2
   have r0' := (hHeld.1.symm.trans ((hal2.cell (p := ⟨bl, 0, none⟩) rl).trans r0))
   injection r0' with r0'
   injection r0' with i1 i2 i3
   subst i1; subst i2; subst i3
   refine oneB 15 (fun K hK => ?_)
   refine step_append_z (by rfl) (.tmp 22) (.tmp 32) 41 (by rfl) base 90 Tryd.underlying41 infoS (by rfl) (by omega) (by rfl) (xs := flatC l) ?_ (by rfl) (news := [.int .i64 4, .string s, .int .i64 us.length]) ?_ (one3 _ _ _) (by omega) (by omega) (by omega) (by simp; omega) ?_
   focus (exact p3.below hal2)
   focus (exact Sl.lit Y _ [_, _, _] 90 3 1 rfl rfl (by simp [maxLen]))
   intro A9 d9 w9 hown9 hb9 hap9
   obtain ⟨q1, q2, q3⟩ := Ly.grown (.cells #[.int .i64 4, .string s, .int .i64 us.length] 90) tLayer_ne.1 tLayer_ne.2.1 HLd.out p2 p3 p4 (x := ⟨4, s, us.length⟩) (wfS i64_4 (by unfold i64; omega) hsmax) hown9 hap9 hb9 hbd0
   have Q1 := Lib.hid q1
   have Q2 := Lib.hid q2
   have Q3 := Lib.hid q3
   have x9 := (hap9.old bl (by simp; omega) (own0_ne (p3.below hal2) ((alloc_past rl).trans p2) (by intro cur he; injection he with e1 e2 e3; exact tLayer_ne.1 e2))).trans ((alloc_past rl).trans p2)
   obtain ⟨s0, s1, sl⟩ := open2 x9
   have sf := frozen_of x9 0
   have hbY9 : Below base Y w9 := (hal2.mono hbd0).trans hb9
   have hb0b : b0 < base := Nat.lt_of_lt_of_le hb00 hWb
   have t1 := (hb9.cell (p := ⟨b0, off0 + 1, none⟩) hb0b).trans hHeld.2.1
   have t2 := (hb9.cell (p := ⟨b0, off0 + 2, none⟩) hb0b).trans hHeld.2.2
   clear q1 q2 q3 x9 hown9 hap9 hb9 p2 p3 p4 r0 r1
   have hHeld8 : (fun w' : World => w'.cell? ⟨bl, 0, none⟩ = some (.slice A1 n1 c1) ∧ w'.cell? ⟨b0, off0 + 1, none⟩ = some (.string s) ∧ w'.cell? ⟨b0, off0 + 2, none⟩ = some (.int .i64 us.length)) w9 := ⟨s0, t1, t2⟩
   refine hK _ _ (.inr hHeld8) ?_
   clear hK K hHeld
   have hHeld := hHeld8
   clear hHeld8
   try simp only [Act.put, sA, sZ, sS]
   refine oneB 16 (fun K hK => ?_)
   go_simp
   have hHeld8 : (fun w' : World => w'.cell? ⟨bl, 0, none⟩ = some (.slice A1 n1 c1) ∧ w'.cell? ⟨b0, off0 + 1, none⟩ = some (.string s) ∧ w'.cell? ⟨b0, off0 + 2, none⟩ = some (.int .i64 us.length)) w9 := ⟨s0, t1, t2⟩
   refine hK _ _ (.inr hHeld8) ?_
   clear hK K hHeld
   have hHeld := hHeld8
   clear hHeld8
   try simp only [Act.put, sA, sZ, sS]
   refine oneB 17 (fun K hK => ?_)
   go_simp
   have hHeld8 : (fun w' : World => w'.cell? ⟨bl, 0, none⟩ = some (.slice A1 n1 c1) ∧ w'.cell? ⟨b0, off0 + 1, none⟩ = some (.string s) ∧ w'.cell? ⟨b0, off0 + 2, none⟩ = some (.int .i64 us.length)) w9 := ⟨s0, t1, t2⟩
   refine hK _ _ (.inr hHeld8) ?_
   clear hK K hHeld
   have hHeld := hHeld8
   clear hHeld8
   try simp only [Act.put, sA, sZ, sS]
   refine oneB 18 (fun K hK => ?_)
   go_simp
   refine hK _ _ (.inl rfl) ?_
   clear hK K hHeld
   try simp only [Act.put, List.setIfInBounds_toArray, List.set_cons_zero, List.set_cons_succ]
   refine but_done (by kernel_rfl) ?_ _
   have hbZ := (Hbd.out.mono hb0).trans Q2.out
   have hkZ := (LKept.below Hbd.out hlt.2).trans Q3.out
   have hbZ0 : base ≤ (w9.setCell ⟨bl, 0, none⟩ (.slice A9 (n1 + 1) d9)).heap.size := Nat.le_trans hb0 hbZ.size
   have HbZ := Lib.hid hbZ
   have HkZ := Lib.hid hkZ
   clear s0 s1 sl sf t1 t2 hbZ hkZ hbY9 yld hbwd rl
   generalize w9.setCell ⟨bl, 0, none⟩ (.slice A9 (n1 + 1) d9) = Z at *
   have hmf := Hmf.out
   have hpw := tParts_w W (some ⟨b0, off0, none⟩) n cap (Tm.f s us).flat Z HW.out (HbW.out.trans (HbZ.out.mono hWb)) hright
   rw [Hpf.out] at hpw
   simp only [Tm.args] at hpw
   have Hpw := Lib.hid hpw
   clear hpw
   go_wp2_with (first
    | (go_at_call 101; go_must (refine Hpw.out.mono ?_); rintro e w3 ⟨Ap, np, cp, vs, rfl, hlp, hop, hrows, hb3⟩))
   have hsp := Sl.own hop (by omega)
   rw [List.length_map] at hlp
   have Hlp := Lib.hid hlp
   have hnp6 : np ≤ 6 := by omega
   have hL3 := Q1.out.below hb3
   have hk3 := HkZ.out.trans (LKept.below hb3 Q1.out.lt.2)
   have hbw3 := HbZ.out.trans (hb3.mono hbZ0)
   have hsz3 := hb3.size
   have hfp : ∀ a, Ap = some a → LFree w3 bl a.block := fun a ha => by
    subst ha
    have hlx := Own0.lt hop a rfl
    rcases hop.2 with ⟨hx1, _⟩ | ⟨g, cap', cur, hx1, _, hx2, _⟩
    ·cases hx1
    ·injection hx1 with hx1
     injection hx1 with hx1
     subst hx1
     exact Ly.free_typ hL3 hx2 (by decide) (by decide) (by have h9 := Q1.out.lt; simp only at hlx; show g ≠ bl; omega)
   have hstart : (l ++ [⟨4, s, us.length⟩]) ++ (slotsZ (us.drop 0) (l ++ [(⟨4, s, us.length⟩ : C)]).length a).1 = (l ++ [⟨4, s, us.length⟩]) ++ (slotsZ us (l.length + 1) a).1 ∧ (slotsZ (us.drop 0) (l ++ [(⟨4, s, us.length⟩ : C)]).length a).2 = (slotsZ us (l.length + 1) a).2 := by simp
   have Hstart := Lib.hid hstart
   have HL3 := Lib.hid hL3
   have Hk3 := Lib.hid hk3
   have Hbw3 := Lib.hid hbw3
   have Hfp := Lib.hid hfp
   have Hop := Lib.hid hop
   have Hsp := Lib.hid hsp
   have hsz0 : w.heap.size ≤ w3.heap.size := hbw3.size
   have hws : W.heap.size ≤ w3.heap.size := by omega
   clear hlp hop hsp hL3 hk3 hbw3 hfp hstart hb3 hmf hc1 hc2
   go_loopw [42] (fun kv wr => ∃ (k : Nat) (ls : List C) (a' : List Int), k ≤ np ∧ kv = .int .i64 k ∧ Ly wr base bl 136 ls a' ∧ Hid (ls ++ (slotsZ (us.drop k) ls.length a').1 = (l ++ [⟨4, s, us.length⟩]) ++ (slotsZ us (l.length + 1) a).1 ∧ (slotsZ (us.drop k) ls.length a').2 = (slotsZ us (l.length + 1) a).2) ∧ Hid (ls.length = l.length + 1 + k ∧ a'.length ≤ 100000) ∧ Below base w wr ∧ LKept w wr bl ∧ w3.heap.size ≤ wr.heap.size ∧
    (∀ a, Ap = some a → wr.heap[a.block]? = w3.heap[a.block]? ∧ LFree wr bl a.block)) (fun kv _ => np - (intOf kv).toNat)
   case atStart => exact ⟨0, l ++ [⟨4, s, us.length⟩], a, Nat.zero_le _, rfl, HL3.out, Hstart, Lib.hid ⟨by simp, ha⟩, Hbw3.out, Hk3.out, Nat.le_refl _, fun a ha => ⟨rfl, Hfp.out a ha⟩⟩
   case round =>
    clear Hstart HL3
    obtain ⟨k, ls, a', hk, rfl, hL2, hres, hlen2, hb2, hK2, hs2, hfp2⟩ := hrel
    by_cases hkn : k < np
    ·obtain ⟨u, hu⟩ : ∃ u, us[k]? = some u := ⟨_, List.getElem?_eq_getElem (by have := Hlp.out; omega)⟩
     have hd := drop_get hu
     have hok2 := ok_mem hoks (List.mem_of_getElem? hu)
     obtain ⟨A5, n5, c5, hv5, hc5⟩ := hrows.2 k u.flat (by rw [List.getElem?_map, hu]; rfl)
     obtain ⟨bpp, op_, rfl, hbp, hcp⟩ := Hsp.out.cells (by omega)
     have hcell5 := (World.cell?_of_block (a := ⟨bpp, op_ + k, none⟩) (hfp2 _ rfl).1).trans (hcp k _ hv5)
     have hbp2 := (hfp2 _ rfl).2.lt
     simp only at hbp2
     have hcap5 := Hsp.out.hcap
     have hWr2 : Below W.heap.size W wr := HbW.out.trans (hb2.mono hWb)
     have hsl := lslot_any W base bl ls a' u A5 n5 c5 wr hc5 hWr2 hWb hL2 hok2 (by have := hlen2.out; have := Hl.out; have := Hlp.out; omega) (hlen2.out.2) (by omega)
     have Hsl := Lib.hid hsl
     have Hd := Lib.hid hd
     have Hok2 := Lib.hid hok2
     clear hd hu hcp hv5 hsl hok2
     go_wp2_with (first
      | (go_at_call 78; go_must (refine Hsl.out.mono ?_); rintro e w5 ⟨rfl, hL5, hb5, hk5⟩))
     go_roundw
     case rel =>
      refine ⟨k + 1, ls ++ [(slotA u ls.length 0 a').1], (slotA u ls.length 0 a').2, by omega, by go_num, hL5, ?_, ?_, hb2.trans hb5, hK2.trans hk5, by have := hb5.size; omega, fun a ha => ?_⟩
      ·have h1 := hres.out
       rw [Hd.out] at h1
       simp only [slotsZ] at h1
       refine Lib.hid ⟨?_, ?_⟩
       ·rw [← h1.1]; simp
       ·rw [← h1.2]; simp
      ·have := hlen2.out
       exact Lib.hid ⟨by simp; omega, slotA_rowlen Hok2.out _ _ this.2⟩
      ·obtain ⟨f1, f2⟩ := hfp2 a ha
       obtain ⟨f3, f4⟩ := hk5.free _ f2
       exact ⟨f3.trans f1, f4⟩
     case measure => simp [intOf]; omega
    ·have hknp : k = np := by omega
     subst hknp
     have hfin : Hid (ls = (l ++ [⟨4, s, us.length⟩]) ++ (slotsZ us (l.length + 1) a).1 ∧ a' = (slotsZ us (l.length + 1) a).2) := Lib.hid (by
      have h1 := hres.out
      rw [List.drop_of_length_le (by have := Hlp.out; omega)] at h1
      simpa [slotsZ] using h1)
     have hwl := whole_lay l s us a
     rw [← hfin.out.1, ← hfin.out.2] at hwl
     have Hwl := Lib.hid hwl
     have hP : ls.length = l.length + 1 + k := hlen2.out.1
     have hp1 : Hid (ls.length = l.length + 1 + us.length) := Lib.hid (by have := Hlp.out; omega)
     have hstart2 : fixA (us.drop 0) ls (l.length + 1 + 0) a' = (l ++ (layA (Tm.f s us) l.length a).1, (layA (Tm.f s us) l.length a).2) := by simpa using Hwl.out
     have Hstart2 := Lib.hid hstart2
     have HP := Lib.hid hP
     have hn1l : Hid ((n1 : Int) = (l.length : Int)) := Lib.hid (by have := Hlen.out; omega)
     clear hres hP hstart2
     go_wp2
     go_loopw [52] (fun iv wr => ∃ (i : Nat) (ls : List C) (a' : List Int), i ≤ k ∧ iv = .int .i64 i ∧ Ly wr base bl 136 ls a' ∧ Hid (fixA (us.drop i) ls (l.length + 1 + i) a' = (l ++ (layA (Tm.f s us) l.length a).1, (layA (Tm.f s us) l.length a).2)) ∧ Hid (ls.length + hss (us.drop i) ≤ 100000 ∧ l.length + 1 + us.length ≤ ls.length ∧ a'.length ≤ 100000) ∧ Below base w wr ∧ LKept w wr bl ∧ w3.heap.size ≤ wr.heap.size ∧
      (∀ a, Ap = some a → wr.heap[a.block]? = w3.heap[a.block]? ∧ LFree wr bl a.block)) (fun iv _ => k - (intOf iv).toNat)
     case atStart => exact ⟨0, ls, a', Nat.zero_le _, rfl, hL2, Hstart2, Lib.hid (by have := hp1.out; have := Hl.out; have := hlen2.out.2; simp; omega), hb2, hK2, hs2, hfp2⟩
     case round =>
      clear hL2 Hstart2 hb2 hK2 hs2 hfp2 Hwl hfin
      obtain ⟨i, ls2, a2, hi, rfl, hL2, hres, hlen3, hb2, hK2, hs2, hfp2⟩ := hrel
      by_cases hin : i < k
      ·obtain ⟨u, hu⟩ : ∃ u, us[i]? = some u := ⟨_, List.getElem?_eq_getElem (by have := Hlp.out; omega)⟩
       have hd := drop_get hu
       have hum := List.mem_of_getElem? hu
       have hok2 := ok_mem hoks hum
       have hsz2 := size_mem hum
       obtain ⟨A5, n5, c5, hv5, hc5⟩ := hrows.2 i u.flat (by rw [List.getElem?_map, hu]; rfl)
       obtain ⟨bpp, op_, rfl, hbp, hcp⟩ := Hsp.out.cells (by omega)
       have hcell5 := (World.cell?_of_block (a := ⟨bpp, op_ + i, none⟩) (hfp2 _ rfl).1).trans (hcp i _ hv5)
       have hbp2 := (hfp2 _ rfl).2.lt
       simp only at hbp2
       have hcap5 := Hsp.out.hcap
       have hWr2 : Below W.heap.size W wr := HbW.out.trans (hb2.mono hWb)
       obtain ⟨b5, off5, rfl, hb5', k0, k1, k2, hn5⟩ := hc5.tm0
       have k0' := (hWr2.cell (p := ⟨b5, off5, none⟩) hb5').trans k0
       have hb5r : b5 < wr.heap.size := Nat.lt_of_lt_of_le hb5' hWr2.size
       have hn5' : (0 : Int) < (n5 : Int) := by omega
       have hsz3 : (Tm.f s us).size = 1 + sizes us := rfl
       have Hd := Lib.hid hd
       have Hok2 := Lib.hid hok2
       have hl3 := hlen3.out
       rw [Hd.out] at hl3
       simp only [hss] at hl3
       have Hl3 := Lib.hid hl3
       clear hd hu hcp hv5 hum k0 k1 k2 hl3
       by_cases hk : u.c0.kind = 3
       ·have hbk : (u.c0.kind == 3) = true := by simp [hk]
        have hrec := Ih.out u ls2 a2 _ n5 c5 wr (by omega) hk hc5 hWr2 hL2 hok2 (by omega) (by have := Hl3.out; omega) Hl3.out.2.2 (by omega)
        have Hrec := Lib.hid hrec
        have Hk := Lib.hid hk
        have hls2 : ls2.length ≤ 1000000 := by have := Hl3.out; omega
        clear hrec hk hok2
        go_wp2_with fail
        refine Hrec.out.mono ?_
        rintro e w5 ⟨rfl, hL5, hb5, hk5⟩
        have HL5 := Lib.hid hL5
        obtain ⟨A6, n6, c6, B6, m6, d6, x1, x2, x3, x4⟩ := hL5.has
        have hidx : l.length + 1 + i < (ls2 ++ (layA u ls2.length a2).1).length := by have := Hl3.out; have := Hlp.out; simp; omega
        obtain ⟨ga, xv, rfl, hin6, hcx, hfx, hgax⟩ := Ly.slot x3 hidx
        obtain ⟨z0, z1, zl⟩ := open2 x2
        have hc61 := (x3.sl (by omega)).hcap
        have hc62 := (x3.sl (by omega)).hmax
        unfold maxLen at hc62
        obtain ⟨q1, q2, q3⟩ := Ly.setn (q := ls2.length) tLayer_ne.1 tLayer_ne.2.1 hL5 x2 x3 x4 hidx hls2
        have hn1e : n1 = l.length := by have := hn1l.out; omega
        have Q1' := Lib.hid q1
        have Q2' := Lib.hid (hb2.trans (hb5.trans q2))
        have Q3' := Lib.hid (hk5.trans q3)
        have hsum1 : IntKind.i64.wrap ((n1 : Int) + 1 + i) = ((n1 + 1 + i : Nat) : Int) := by rw [IntWalk.i64_in _ (by omega)]; omega
        have hn6 : n1 + 1 + i < n6 := by omega
        rw [← hn1e] at hcx hfx Q1' Q2' Q3'
        have Hn1e := Lib.hid hn1e
        have hb5s := hb5.size
        clear q1 q2 q3 x1 x2 x3 x4 hL5 hn1e hidx hin6
        go_wp2_with fail
        go_roundw
        case rel =>
         refine ⟨i + 1, setN (ls2 ++ (layA u ls2.length a2).1) (n1 + 1 + i) ls2.length, (layA u ls2.length a2).2, by omega, by go_num, Q1'.out, ?_, ?_, Q2'.out, hK2.trans Q3'.out, by simp; omega, fun a ha => ?_⟩
         ·have h1 := hres.out
          rw [Hd.out] at h1
          unfold fixA at h1
          rw [if_pos Hk.out] at h1
          rw [Hn1e.out]
          exact Lib.hid h1
         ·have h3 := Hl3.out
          have h4 := layA_len u ls2.length a2
          refine Lib.hid ⟨?_, ?_, layA_rowlen u Hok2.out _ _ h3.2.2⟩
          ·rw [setN_len, List.length_append, h4]; omega
          ·rw [setN_len, List.length_append, h4]; omega
         ·obtain ⟨f1, f2⟩ := hfp2 a ha
          obtain ⟨f3, f4⟩ := Q3'.out.free _ f2
          exact ⟨f3.trans f1, f4⟩
        case measure => simp [intOf]; omega
       ·have hbk : (u.c0.kind == 3) = false := by simp [hk]
        have Hk := Lib.hid hk
        clear hk
        go_wp2
        go_roundw
        case rel =>
         refine ⟨i + 1, ls2, a2, by omega, by go_num, hL2, ?_, ?_, hb2, hK2, hs2, hfp2⟩
         ·have h1 := hres.out
          rw [Hd.out] at h1
          unfold fixA at h1
          rw [if_neg Hk.out] at h1
          exact Lib.hid h1
         ·have := Hl3.out
          exact Lib.hid ⟨by omega, this.2.1, this.2.2⟩
        case measure => simp [intOf]; omega
      ·have hik : i = k := by omega
       subst hik
       have hfin : Hid (ls2 = l ++ (layA (Tm.f s us) l.length a).1 ∧ a2 = (layA (Tm.f s us) l.length a).2) := Lib.hid (by
        have h1 := hres.out
        rw [List.drop_of_length_le (by have := Hlp.out; omega)] at h1
        simp only [fixA] at h1
        exact ⟨congrArg Prod.fst h1, congrArg Prod.snd h1⟩)
       go_wp2
       go_ret
       refine ⟨ret_int (by rw [hn1l.out]), ?_, hb2, hK2⟩
       rw [← hfin.out.1, ← hfin.out.2]
       exact hL2
end Go.Proofs.YtgipiplklaeplaaDoor
