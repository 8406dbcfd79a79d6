/- The walk of the law CodeOnce. -/
import Derived.Deep.OwnRows
import Derived.Test.YtdeaeiolehglaaaLawT
import Derived.Test.YtdeaeiolehglaaaM7
set_option linter.unusedVariables false
set_option linter.unusedSimpArgs false
namespace Go.Proofs.Ytdeaeiolehglaaa
open Go.RowKit

theorem sets_any (op x a n : Int) (nm : ByteArray) (ng : Bool) (b : Bool) (r : Int) (w : World) (h : (op = 1 ∨ op = 5 ∨ op = 9) ∧ b = true ∧ r = x ∨ op = 8 ∧ b = true ∧ r = a ∨ (op = 2 ∨ op = 3 ∨ op = 4 ∨ op = 12 ∨ op = 6 ∨ op = 10 ∨ op = 7 ∨ op = 11 ∨ op = 13) ∧ b = false ∧ r = 0) :
    Calls Try.prog 25 #[.agg #[.int .i64 op, .int .i64 x, .int .i64 a, .string nm, .int .i64 n, .bool ng]] w (RetV w (.tuple #[.bool b, .int .i64 r])) := by
  rcases h with ⟨h, rfl, rfl⟩ | ⟨h, rfl, rfl⟩ | ⟨h, rfl, rfl⟩
  · rcases h with rfl | rfl | rfl
    all_goals
      go_enter Try.func25, Try.ntmps25
      go_wp2
      go_quiet (fail)
      go_wp2
      refine bodyPost_ret (v := .tuple #[.bool true, .int .i64 r]) (by simp [results, Try.results25, go_sem, *]) rfl ?_
      exact ⟨rfl, Below.trans ((Below.refl _ _).alloc (Nat.le_refl _) _) (below_drewN (Below.refl _ _) _)⟩
  · subst h
    go_enter Try.func25, Try.ntmps25
    go_wp2
    go_quiet (fail)
    go_wp2
    refine bodyPost_ret (v := .tuple #[.bool true, .int .i64 r]) (by simp [results, Try.results25, go_sem, *]) rfl ?_
    exact ⟨rfl, Below.trans ((Below.refl _ _).alloc (Nat.le_refl _) _) (below_drewN (Below.refl _ _) _)⟩
  · rcases h with rfl | rfl | rfl | rfl | rfl | rfl | rfl | rfl | rfl
    all_goals
      go_enter Try.func25, Try.ntmps25
      go_wp2
      refine bodyPost_ret (v := .tuple #[.bool false, .int .i64 0]) (by simp [results, Try.results25, go_sem, *]) rfl ?_
      exact ⟨rfl, (Below.refl _ _).alloc (Nat.le_refl _) _⟩
theorem infoBool : (Try.prog.info? 4).map (fun i => (i.zero, i.size, i.bytes)) = some (some (.bool false), 1, 1) := by kernel_rfl
theorem row_next {w : World} {b n s : Nat} (h : w.rowIs b 4 n (fun j => .bool (decide (j < s)))) : (w.setCell ⟨b, s, none⟩ (.bool true)).rowIs b 4 n (fun j => .bool (decide (j < s + 1))) :=
  (h.set s (.bool true)).congr fun i hi => by
    by_cases e : i = s
    · subst e; simp
    · rw [if_neg e]
      have : decide (i < s) = decide (i < s + 1) := by simp; omega
      rw [this]
set_option maxRecDepth 100000 in
set_option maxHeartbeats 8000000 in
theorem codeOnce_walk (A : Option Addr) (n c : Nat) (t : List C) (B : Option Addr) (m d : Nat) (b : List (Bool × List C)) (w : World) (h : IsC w A n c t) (hB : IsLs w B m d b) :
    Calls Try.prog 8 #[.agg #[.slice A n c, .slice B m d]] w (RetV w (.bool true)) := by
  have hal : Below w.heap.size w (w.alloc (.cells #[.slice A n c, .slice B m d] 25)) := (Below.refl _ _).alloc (Nat.le_refl _) _
  have hhead := head10_any (w.alloc (.cells #[.slice A n c, .slice B m d] 25))
  have Hhead := Lib.hid hhead
  have hx0 : (w.alloc (.cells #[.slice A n c, .slice B m d] 25)).heap[w.heap.size]? = some (.cells #[.slice A n c, .slice B m d] 25 (0, 0)) := alloc_at rfl
  have hgc := fun w1 (hb1 : Below w.heap.size w w1) => Great7_any (some ⟨w1.heap.size, 0, none⟩) 1 1 [(t, b)] (w1.alloc (.cells #[.slice A n c, .slice B m d] 25)) (isCl_one ((h.below hb1).below ((Below.refl _ _).alloc (Nat.le_refl _) _)) (IsG.below keepsLit (IsG.below keepsLit hB hb1) ((Below.refl _ _).alloc (Nat.le_refl _) _)) (alloc_at rfl))
  have Hx0 := Lib.hid hx0
  clear hhead hx0
  cases hg1 : greatC [(t, b)]
  · obtain ⟨q1, q2, q3⟩ := not_great hg1
    rw [hg1] at hgc
    have Hgc := Lib.hid hgc
    have hnl := h.len
    have hml := hB.len
    have hmy := fun w1 (hb1 : Below w.heap.size w w1) => rMay_any A n c t B m d b w1 (h.below hb1) (IsG.below keepsLit hB hb1) (by omega) (by omega) (fun x hx => by have := q3 x hx; omega)
    cases hm : mayB (t, b)
    · rw [hm] at hmy
      have Hmay := Lib.hid hmy
      clear hgc hmy hm hg1 hnl hml q1 q2 q3 h hB
      go_enter Try.func8, Try.ntmps8
      go_wp2_with fail
      refine Hhead.out.mono ?_
      rintro e w1 ⟨rfl, hb1⟩
      have hb := hal.trans (hb1.mono hal.size)
      have x1 := (hb1.block w.heap.size (by simp)).trans Hx0.out
      have xl1 := block_lt x1
      have hgc1 := Hgc.out w1 hb
      have Hgc1 := Lib.hid hgc1
      obtain ⟨y0, y1, yl⟩ := open2 x1
      clear hgc1
      go_wp2_with fail
      refine Hgc1.out.mono ?_
      rintro e w2 ⟨rfl, hb2⟩
      replace hb := (hb.alloc hb.size _).trans (hb2.mono (by simp; omega))
      have x2 := (hb2.block w.heap.size (by simp; omega)).trans ((alloc_past xl1).trans x1)
      have xl2 := block_lt x2
      clear y0 y1 yl x1 xl1 hb1 hb2 Hgc1
      obtain ⟨y0, y1, yl⟩ := open2 x2
      go_wp2_with fail
      refine (Hmay.out _ hb).mono ?_
      rintro e w3 ⟨rfl, hb3⟩
      replace hb := hb.trans (hb3.mono hb.size)
      have x3 := (hb3.block w.heap.size xl2).trans x2
      have xl3 := block_lt x3
      clear y0 y1 yl hb3 x2 xl2
      obtain ⟨y0, y1, yl⟩ := open2 x3
      go_wp2_with fail
      go_ret
      exact ⟨rfl, hb⟩
    · rw [hm] at hmy
      have Hmay := Lib.hid hmy
      obtain ⟨cl, hcl⟩ := mayB_cls hm
      have hcc := fun w1 (hb1 : Below w.heap.size w w1) => compile_yes cl A n c t B m d b w1 (h.below hb1) (IsG.below keepsLit hB hb1) hcl hm
      have hlenF := compF_len hcl
      obtain ⟨N, hN1, hN2, hN3, honce⟩ := code_once cl fun l hl => (hcl.bok l hl).2.2
      have hok := compF_okr hcl
      obtain ⟨b0, off0, hA, hb0, e0, e1, e2, hnp⟩ := (hcl.head ▸ h : IsC w A n c cl.head.flat).tm
      have hn6 := args_len hcl.hok.1
      obtain ⟨N0, hN0⟩ : ∃ N0, cl.head.args.length = N0 := ⟨_, rfl⟩
      have hcn : cl.head.c0.n = N0 := by
        obtain ⟨nm, us, he⟩ := (c0_kind3 cl.head).1 hcl.hok.2.2
        rw [← hN0, he]; rfl
      rw [hcn] at e2
      rw [hN0] at hN2 hN3 honce hn6
      have Hcc := Lib.hid hcc
      have HlenF := Lib.hid hlenF
      have Honce := Lib.hid honce
      have Hok := Lib.hid hok
      have HN1 := Lib.hid hN1
      have HN3 := Lib.hid hN3
      clear hgc hmy hm hg1 q1 q2 q3 h hB hlenF hcc hcl hnl hml honce hok hN0 hcn hN1 hN3 e0 e1
      subst hA
      go_enter Try.func8, Try.ntmps8
      go_wp2_with fail
      refine Hhead.out.mono ?_
      rintro e w1 ⟨rfl, hb1⟩
      have hb := hal.trans (hb1.mono hal.size)
      have x1 := (hb1.block w.heap.size (by simp)).trans Hx0.out
      have xl1 := block_lt x1
      have hgc1 := Hgc.out w1 hb
      have Hgc1 := Lib.hid hgc1
      obtain ⟨y0, y1, yl⟩ := open2 x1
      clear hgc1
      go_wp2_with fail
      refine Hgc1.out.mono ?_
      rintro e w2 ⟨rfl, hb2⟩
      replace hb := (hb.alloc hb.size _).trans (hb2.mono (by simp; omega))
      have x2 := (hb2.block w.heap.size (by simp; omega)).trans ((alloc_past xl1).trans x1)
      have xl2 := block_lt x2
      clear y0 y1 yl x1 xl1 hb1 hb2 Hgc1
      obtain ⟨y0, y1, yl⟩ := open2 x2
      go_wp2_with fail
      refine (Hmay.out _ hb).mono ?_
      rintro e w3 ⟨rfl, hb3⟩
      replace hb := hb.trans (hb3.mono hb.size)
      have x3 := (hb3.block w.heap.size xl2).trans x2
      have xl3 := block_lt x3
      clear y0 y1 yl hb3 x2 xl2
      obtain ⟨y0, y1, yl⟩ := open2 x3
      go_wp2_with fail
      refine (Hcc.out _ hb).mono ?_
      rintro e w4 ⟨Aa, na, ca, rfl, hKa, hb4⟩
      replace hb := hb.trans (hb4.mono hb.size)
      have x4 := (hb4.block w.heap.size xl3).trans x3
      clear y0 y1 yl hb4 x3 xl3
      obtain ⟨l, hl⟩ : ∃ l, compF cl = l := ⟨_, rfl⟩
      rw [hl] at hKa Honce HlenF Hok HN1 HN3
      have Hll := Lib.hid hKa.len
      have hna : na ≤ 100000 := by have := Hll.out; have := HlenF.out; omega
      have hN3 : N ≤ N0 + na := by have := HN3.out; have := Hll.out; omega
      have hreg := cRegs_any Aa na ca l w4 hKa hna Hok.out
      rw [HN1.out] at hreg
      have Hreg := Lib.hid hreg
      clear HlenF hl Hcc hreg HN1 HN3
      go_wp2_with fail
      refine Hreg.out.mono ?_
      rintro e w5 ⟨rfl, hb5⟩
      replace hb := hb.trans (hb5.mono hb.size)
      have x5 := (hb5.block w.heap.size (block_lt x4)).trans x4
      have hKa := IsG.below keepsIn hKa hb5
      obtain ⟨y0, y1, yl⟩ := open2 x5
      obtain ⟨hc0, _⟩ := bcell hb
      have g2 := (hc0 b0 (off0 + 2) hb0).trans e2
      have hbw5 : b0 < w5.heap.size := Nat.lt_of_lt_of_le hb0 hb.size
      have r1 : ¬ (N : Int) < (N0 : Int) := by omega
      have r2 : ¬ (na : Int) + 6 < (N : Int) := by omega
      have hmk : ∀ w, (Instr.makeSlice 46 (.int .i64 (N : Int)) (.int .i64 (N : Int))).run Try.prog w = .ok (.slice (some ⟨w.heap.size, 0, none⟩) N N) (w.alloc (.cells (madeCells #[.bool false] N) 4)) := fun w =>
        run_make_row' 46 4 (.bool false) 1 Try.underlying46 infoBool rfl .i64 .i64 N (by omega) (by omega) w
      clear hb5 x4 hc0 Hreg
      go_upto_region 9 with fail
      have r1' : decide (N < N0) = false := by simp; omega
      have r2' : decide ((na : Int) + 6 < (N : Int)) = false := by simp; omega
      simp only [r1', r2', Bool.false_or, Bool.or_false]
      clear r1' r2'
      refine wp_world' (Φ := fun X => Below w5.heap.size w5 X ∧ X.rowIs w5.heap.size 4 N (fun j => .bool (decide (j < 0)))) ⟨(Below.refl _ _).alloc (Nat.le_refl _) _, (World.rowIs_made w5 (.bool false) N 4).congr fun i hi => by simp⟩ ?_
      rintro X ⟨hbX, hrow⟩
      have hbX' := hbX
      have hyl : w.heap.size < w5.heap.size := by omega
      have hb0s : b0 < w5.heap.size := by omega
      have hKs : ∀ wr, Below w5.heap.size w5 wr → IsK wr Aa na ca l := fun wr hbr => IsG.below keepsIn hKa hbr
      have hbl : ∀ wr, Below w5.heap.size w5 wr → Below w.heap.size w wr := fun wr hbr => hb.trans (hbr.mono (by omega))
      have HKs := Lib.hid hKs
      have Hbl := Lib.hid hbl
      clear hKs hbl hKa hbX hmk r1 r2 x5 hb
      go_wp2
      go_loopw [8] (fun iv wr => ∃ k : Nat, k ≤ N0 ∧ iv = .int .i64 k ∧ wr.rowIs w5.heap.size 4 N (fun j => .bool (decide (j < k))) ∧ Below w5.heap.size w5 wr) (fun iv _ => N0 - (intOf iv).toNat)
      case atStart => exact ⟨0, Nat.zero_le _, rfl, hrow, hbX'⟩
      case round =>
        clear hrow hbX'
        obtain ⟨k, hk, rfl, hrow, hbr⟩ := hrel
        obtain ⟨hc, _⟩ := bcell hbr
        have z0 := (hc w.heap.size 0 hyl).trans y0
        have z1 := (hc w.heap.size 1 hyl).trans y1
        have z2 := (hc b0 (off0 + 2) hb0s).trans g2
        have hlr := hrow.lt
        by_cases hlt : k < N0
        · have hk1 := hrow.cell (i := k) (by omega)
          have hk2 := hrow.frozen k
          have hrow2 := row_next hrow
          have hkN : k < N := by omega
          clear hc hrow
          go_wp2
          go_roundw
          case rel => exact ⟨k + 1, by omega, by go_num, hrow2, Below.setCell hbr (Nat.le_refl _) _⟩
          case measure => simp [intOf]; omega
        · have hkN : k = N0 := by omega
          subst hkN
          clear hc
          go_wp2
          go_loopw [9] (fun iv wr => ∃ (k s : Nat), k ≤ na ∧ iv = .int .i64 k ∧ s ≤ N ∧ Hid (Once N s (l.drop k)) ∧ wr.rowIs w5.heap.size 4 N (fun j => .bool (decide (j < s))) ∧ Below w5.heap.size w5 wr) (fun iv _ => na - (intOf iv).toNat)
          case atStart => exact ⟨0, k, Nat.zero_le _, rfl, hN2, Honce, hrow, hbr⟩
          case round =>
            clear hrow hbr z0 z1 z2 hlr Honce
            obtain ⟨q, s, hq, rfl, hs, hon, hrow, hbr⟩ := hrel
            have hlr := hrow.lt
            by_cases hlt2 : q < na
            · have hKr := HKs.out _ hbr
              obtain ⟨i, hik⟩ := hKr.get hlt2
              have hdr := drop_get hik
              obtain ⟨b1, o1, rfl, hbb, hwf, h0, h1, h2, h3, h4, h5⟩ := hKr.at' hik
              have hp : (q : Int) < (na : Int) := by omega
              have hcap := hKr.cap_le
              have ho := hon.out
              rw [hdr, Once] at ho
              obtain ⟨_, ⟨p1, p2, p3, p4⟩, s', hs', hset, hrest⟩ := ho
              have Hrest := Lib.hid hrest
              have hbl9 := Hbl.out _ hbr
              obtain ⟨xn, hxn⟩ : ∃ xn : Nat, i.x = xn := ⟨i.x.toNat, by omega⟩
              obtain ⟨an, han⟩ : ∃ an : Nat, i.a = an := ⟨i.a.toNat, by omega⟩
              have hx1 : xn ≤ N := by omega
              have ha1 : an ≤ N := by omega
              have c1 : ¬ (xn : Int) < 0 := by omega
              have c2 : ¬ (N : Int) < (xn : Int) := by omega
              have c3 : ¬ (an : Int) < 0 := by omega
              have c4 : ¬ (N : Int) < (an : Int) := by omega
              rw [hxn] at h1
              rw [han] at h2
              have hcs := hset.cases
              rw [hxn, han] at hcs
              clear hset hik hdr hKr hwf hrest hon hxn han p1 p2 p3 p4
              obtain ⟨op, hop⟩ : ∃ op, i.op = op := ⟨_, rfl⟩
              rw [hop] at h0 hcs
              have HCS := Lib.hid hcs
              clear hcs hop
              go_upto_region 17 with fail
              refine on_world (fun Y => Below wr.heap.size wr Y ∧ Y.heap[wr.heap.size]? = some (.cells #[.int .i64 op, .int .i64 (xn : Int), .int .i64 (an : Int), .string i.name, .int .i64 i.n, .bool i.neg] 48 (0, 0))) ⟨(Below.refl _ _).alloc (Nat.le_refl _) _, alloc_at rfl⟩ ?_
              rintro Y ⟨hbY, yY⟩
              have hrowY := hrow.of_block (hbY.block w5.heap.size hlr)
              have hlY := hrowY.lt
              have t0 := cells_of yY 0
              have t1 := cells_of yY 1
              have t2 := cells_of yY 2
              have t3 := cells_of yY 3
              have t4 := cells_of yY 4
              have t5 := cells_of yY 5
              have tl := block_lt yY
              simp at t0 t1 t2 t3 t4 t5
              have hrd : ∀ j, j < s → Y.cell? ⟨w5.heap.size, j, none⟩ = some (.bool true) := fun j hj => (hrowY.cell (i := j) (by omega)).trans (by simp [hj])
              obtain ⟨nm, hnm⟩ : ∃ nm, i.name = nm := ⟨_, rfl⟩
              obtain ⟨nn, hnn⟩ : ∃ nn, i.n = nn := ⟨_, rfl⟩
              obtain ⟨ng, hng⟩ : ∃ ng, i.neg = ng := ⟨_, rfl⟩
              rw [hnm] at t3
              rw [hnn] at t4
              rw [hng] at t5
              have m1 : ¬ N < xn := by omega
              have m2 : ¬ N < an := by omega
              have hq1 : q + 1 ≤ na := by omega
              have HRD := Lib.hid hrd
              clear hrow hlr hrd yY h0 h1 h2 h3 h4 h5 hbb hnm hnn hng
              rcases HCS.out with ⟨rfl, rfl, f1, f2, f3⟩ | ⟨rfl, f0, f1, f2⟩ | ⟨rfl, rfl, f1, f2⟩ | ⟨rfl, rfl, f1, f2, f3, f4⟩ | ⟨rfl, f0, f1, f2, f3⟩ | ⟨rfl, f0, f1, f2, f3⟩ | ⟨rfl, f0, f1, f2⟩
              · have e1 : s = xn := by omega
                subst e1
                have d1 : ¬ (N : Int) ≤ (an : Int) := by omega
                have d3 : ¬ N ≤ an := by omega
                have hanN : an < N := by omega
                have u1 := HRD.out an (by omega)
                have hst := fun Y => sets_any 1 s an nn nm ng true s Y (.inl ⟨.inl rfl, rfl, rfl⟩)
                have hsN : s < N := by omega
                have d2 : ¬ (N : Int) ≤ (s : Int) := by omega
                have d4 : ¬ N ≤ s := by omega
                clear HCS
                have HST := Lib.hid hst
                clear hst
                go_wp2_with (first
                  | (go_at_call 25; go_must (refine (HST.out _).mono ?_); rintro e9 w9 ⟨rfl, hb9⟩; have hrow9 := hrowY.of_block (hb9.block w5.heap.size hlY); have hl9 := hrow9.lt; have hfr9 := hrow9.frozen s; have hsl9 : s < N → w9.cell? ⟨w5.heap.size, s, none⟩ = some (.bool false) := fun hj => (hrow9.cell hj).trans (by simp)))
                have hb9w : Below w5.heap.size w5 w9 := (hbr.trans (hbY.mono hbr.size)).trans (hb9.mono (Nat.le_trans hbr.size hbY.size))
                go_roundw
                case rel => exact ⟨q + 1, s + 1, by omega, by go_num, by omega, Hrest, row_next hrow9, Below.setCell hb9w (Nat.le_refl _) _⟩
                case measure => simp [intOf]; omega
              · have e1 : s = xn := by omega
                subst e1
                have e2 : an = 0 := by omega
                subst e2
                rcases f0 with rfl | rfl
                · have hst := fun Y => sets_any 5 s ((0 : Nat) : Int) nn nm ng true s Y (.inl ⟨.inr (.inl rfl), rfl, rfl⟩)
                  have hsN : s < N := by omega
                  have d2 : ¬ (N : Int) ≤ (s : Int) := by omega
                  have d4 : ¬ N ≤ s := by omega
                  clear HCS
                  have HST := Lib.hid hst
                  clear hst
                  go_wp2_with (first
                    | (go_at_call 25; go_must (refine (HST.out _).mono ?_); rintro e9 w9 ⟨rfl, hb9⟩; have hrow9 := hrowY.of_block (hb9.block w5.heap.size hlY); have hl9 := hrow9.lt; have hfr9 := hrow9.frozen s; have hsl9 : s < N → w9.cell? ⟨w5.heap.size, s, none⟩ = some (.bool false) := fun hj => (hrow9.cell hj).trans (by simp)))
                  have hb9w : Below w5.heap.size w5 w9 := (hbr.trans (hbY.mono hbr.size)).trans (hb9.mono (Nat.le_trans hbr.size hbY.size))
                  go_roundw
                  case rel => exact ⟨q + 1, s + 1, by omega, by go_num, by omega, Hrest, row_next hrow9, Below.setCell hb9w (Nat.le_refl _) _⟩
                  case measure => simp [intOf]; omega
                · have hst := fun Y => sets_any 9 s ((0 : Nat) : Int) nn nm ng true s Y (.inl ⟨.inr (.inr rfl), rfl, rfl⟩)
                  have hsN : s < N := by omega
                  have d2 : ¬ (N : Int) ≤ (s : Int) := by omega
                  have d4 : ¬ N ≤ s := by omega
                  clear HCS
                  have HST := Lib.hid hst
                  clear hst
                  go_wp2_with (first
                    | (go_at_call 25; go_must (refine (HST.out _).mono ?_); rintro e9 w9 ⟨rfl, hb9⟩; have hrow9 := hrowY.of_block (hb9.block w5.heap.size hlY); have hl9 := hrow9.lt; have hfr9 := hrow9.frozen s; have hsl9 : s < N → w9.cell? ⟨w5.heap.size, s, none⟩ = some (.bool false) := fun hj => (hrow9.cell hj).trans (by simp)))
                  have hb9w : Below w5.heap.size w5 w9 := (hbr.trans (hbY.mono hbr.size)).trans (hb9.mono (Nat.le_trans hbr.size hbY.size))
                  go_roundw
                  case rel => exact ⟨q + 1, s + 1, by omega, by go_num, by omega, Hrest, row_next hrow9, Below.setCell hb9w (Nat.le_refl _) _⟩
                  case measure => simp [intOf]; omega
              · have e1 : s = an := by omega
                subst e1
                have e2 : xn = 0 := by omega
                subst e2
                have hst := fun Y => sets_any 8 ((0 : Nat) : Int) s nn nm ng true s Y (.inr (.inl ⟨rfl, rfl, rfl⟩))
                have hsN : s < N := by omega
                have d2 : ¬ (N : Int) ≤ (s : Int) := by omega
                have d4 : ¬ N ≤ s := by omega
                clear HCS
                have HST := Lib.hid hst
                clear hst
                go_wp2_with (first
                  | (go_at_call 25; go_must (refine (HST.out _).mono ?_); rintro e9 w9 ⟨rfl, hb9⟩; have hrow9 := hrowY.of_block (hb9.block w5.heap.size hlY); have hl9 := hrow9.lt; have hfr9 := hrow9.frozen s; have hsl9 : s < N → w9.cell? ⟨w5.heap.size, s, none⟩ = some (.bool false) := fun hj => (hrow9.cell hj).trans (by simp)))
                have hb9w : Below w5.heap.size w5 w9 := (hbr.trans (hbY.mono hbr.size)).trans (hb9.mono (Nat.le_trans hbr.size hbY.size))
                go_roundw
                case rel => exact ⟨q + 1, s + 1, by omega, by go_num, by omega, Hrest, row_next hrow9, Below.setCell hb9w (Nat.le_refl _) _⟩
                case measure => simp [intOf]; omega
              · have d1 : ¬ (N : Int) ≤ (an : Int) := by omega
                have d3 : ¬ N ≤ an := by omega
                have hanN : an < N := by omega
                have u1 := HRD.out an (by omega)
                have d5 : ¬ (N : Int) ≤ (xn : Int) := by omega
                have d6 : ¬ N ≤ xn := by omega
                have hxnN : xn < N := by omega
                have u0 := HRD.out xn (by omega)
                have hst := fun Y => sets_any 2 xn an nn nm ng false 0 Y (.inr (.inr ⟨.inl rfl, rfl, rfl⟩))
                clear HCS
                have HST := Lib.hid hst
                clear hst
                go_wp2_with (first
                  | (go_at_call 25; go_must (refine (HST.out _).mono ?_); rintro e9 w9 ⟨rfl, hb9⟩; have hrow9 := hrowY.of_block (hb9.block w5.heap.size hlY); have hl9 := hrow9.lt; have hfr9 := hrow9.frozen s'; have hsl9 : s' < N → w9.cell? ⟨w5.heap.size, s', none⟩ = some (.bool false) := fun hj => (hrow9.cell hj).trans (by simp)))
                have hb9w : Below w5.heap.size w5 w9 := (hbr.trans (hbY.mono hbr.size)).trans (hb9.mono (Nat.le_trans hbr.size hbY.size))
                go_roundw
                case rel => exact ⟨q + 1, s', by omega, by go_num, by omega, Hrest, hrow9, hb9w⟩
                case measure => simp [intOf]; omega
              · have d1 : ¬ (N : Int) ≤ (an : Int) := by omega
                have d3 : ¬ N ≤ an := by omega
                have hanN : an < N := by omega
                have u1 := HRD.out an (by omega)
                have e2 : xn = 0 := by omega
                subst e2
                have hst := fun Y => sets_any op ((0 : Nat) : Int) an nn nm ng false 0 Y (.inr (.inr ⟨by omega, rfl, rfl⟩))
                rcases f0 with rfl | rfl | rfl
                all_goals
                  clear HCS
                  have HST := Lib.hid hst
                  clear hst
                  go_wp2_with (first
                    | (go_at_call 25; go_must (refine (HST.out _).mono ?_); rintro e9 w9 ⟨rfl, hb9⟩; have hrow9 := hrowY.of_block (hb9.block w5.heap.size hlY); have hl9 := hrow9.lt; have hfr9 := hrow9.frozen s'; have hsl9 : s' < N → w9.cell? ⟨w5.heap.size, s', none⟩ = some (.bool false) := fun hj => (hrow9.cell hj).trans (by simp)))
                  have hb9w : Below w5.heap.size w5 w9 := (hbr.trans (hbY.mono hbr.size)).trans (hb9.mono (Nat.le_trans hbr.size hbY.size))
                  go_roundw
                  case rel => exact ⟨q + 1, s', by omega, by go_num, by omega, Hrest, hrow9, hb9w⟩
                  case measure => simp [intOf]; omega
              · have d5 : ¬ (N : Int) ≤ (xn : Int) := by omega
                have d6 : ¬ N ≤ xn := by omega
                have hxnN : xn < N := by omega
                have u0 := HRD.out xn (by omega)
                have e2 : an = 0 := by omega
                subst e2
                have hst := fun Y => sets_any op xn ((0 : Nat) : Int) nn nm ng false 0 Y (.inr (.inr ⟨by omega, rfl, rfl⟩))
                rcases f0 with rfl | rfl
                all_goals
                  clear HCS
                  have HST := Lib.hid hst
                  clear hst
                  go_wp2_with (first
                    | (go_at_call 25; go_must (refine (HST.out _).mono ?_); rintro e9 w9 ⟨rfl, hb9⟩; have hrow9 := hrowY.of_block (hb9.block w5.heap.size hlY); have hl9 := hrow9.lt; have hfr9 := hrow9.frozen s'; have hsl9 : s' < N → w9.cell? ⟨w5.heap.size, s', none⟩ = some (.bool false) := fun hj => (hrow9.cell hj).trans (by simp)))
                  have hb9w : Below w5.heap.size w5 w9 := (hbr.trans (hbY.mono hbr.size)).trans (hb9.mono (Nat.le_trans hbr.size hbY.size))
                  go_roundw
                  case rel => exact ⟨q + 1, s', by omega, by go_num, by omega, Hrest, hrow9, hb9w⟩
                  case measure => simp [intOf]; omega
              · have e1 : xn = 0 := by omega
                subst e1
                have e2 : an = 0 := by omega
                subst e2
                have hst := fun Y => sets_any op ((0 : Nat) : Int) ((0 : Nat) : Int) nn nm ng false 0 Y (.inr (.inr ⟨by omega, rfl, rfl⟩))
                rcases f0 with rfl | rfl | rfl
                all_goals
                  clear HCS
                  have HST := Lib.hid hst
                  clear hst
                  go_wp2_with (first
                    | (go_at_call 25; go_must (refine (HST.out _).mono ?_); rintro e9 w9 ⟨rfl, hb9⟩; have hrow9 := hrowY.of_block (hb9.block w5.heap.size hlY); have hl9 := hrow9.lt; have hfr9 := hrow9.frozen s'; have hsl9 : s' < N → w9.cell? ⟨w5.heap.size, s', none⟩ = some (.bool false) := fun hj => (hrow9.cell hj).trans (by simp)))
                  have hb9w : Below w5.heap.size w5 w9 := (hbr.trans (hbY.mono hbr.size)).trans (hb9.mono (Nat.le_trans hbr.size hbY.size))
                  go_roundw
                  case rel => exact ⟨q + 1, s', by omega, by go_num, by omega, Hrest, hrow9, hb9w⟩
                  case measure => simp [intOf]; omega
            · have ho := hon.out
              rw [List.drop_eq_nil_of_le (by have := Hll.out; omega), Once] at ho
              subst ho
              go_wp2
              go_loopw [15] (fun iv wq => ∃ k : Nat, k ≤ s ∧ iv = .int .i64 k ∧ wq = wr) (fun iv _ => s - (intOf iv).toNat)
              case atStart => exact ⟨0, Nat.zero_le _, rfl, by first | rfl | trivial⟩
              case round =>
                obtain ⟨j, hj, rfl, hwr⟩ := hrel
                try subst hwr
                by_cases hjs : j < s
                · have hc := hrow.cell hjs
                  have hd : decide (j < s) = true := by simp [hjs]
                  rw [hd] at hc
                  go_wp2
                  go_roundw
                  case rel => exact ⟨j + 1, by omega, by go_num, trivial⟩
                  case measure => simp [intOf]; omega
                · go_wp2
                  go_ret
                  exact ⟨rfl, Hbl.out _ hbr⟩
  · rw [hg1] at hgc
    have Hgc := Lib.hid hgc
    clear hgc hg1 h hB
    go_enter Try.func8, Try.ntmps8
    go_wp2_with fail
    refine Hhead.out.mono ?_
    rintro e w1 ⟨rfl, hb1⟩
    have hb := hal.trans (hb1.mono hal.size)
    have x1 := (hb1.block w.heap.size (by simp)).trans Hx0.out
    have xl1 := block_lt x1
    have hgc1 := Hgc.out w1 hb
    have Hgc1 := Lib.hid hgc1
    obtain ⟨y0, y1, yl⟩ := open2 x1
    clear hgc1
    go_wp2_with fail
    refine Hgc1.out.mono ?_
    rintro e w2 ⟨rfl, hb2⟩
    replace hb := (hb.alloc hb.size _).trans (hb2.mono (by simp; omega))
    have x2 := (hb2.block w.heap.size (by simp; omega)).trans ((alloc_past xl1).trans x1)
    have xl2 := block_lt x2
    clear y0 y1 yl x1 xl1 hb1 hb2 Hgc1
    obtain ⟨y0, y1, yl⟩ := open2 x2
    go_wp2_with fail
    go_ret
    exact ⟨rfl, hb⟩
end Go.Proofs.Ytdeaeiolehglaaa
