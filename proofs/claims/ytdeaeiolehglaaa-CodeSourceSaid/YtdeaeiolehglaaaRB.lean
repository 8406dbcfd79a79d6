/- The walk of the document's build. -/
import Derived.Test.YtdeaeiolehglaaaUnis
set_option linter.unusedVariables false
set_option linter.unusedSimpArgs false
namespace Go.Proofs.Ytdeaeiolehglaaa
open Go.RowKit

theorem fit_sets : ∀ (ts : List Tm) (xs : List Int) (s : St), s.fit 100000 → s.room ts.length → oks ts = true → (∀ x ∈ xs, -1 ≤ x ∧ x ≤ 100000) → (setsF s ts xs).fit 100000
  | [], xs, s, h, _, _, _ => by
    have : setsF s [] xs = s := by cases xs <;> rfl
    rw [this]; exact h
  | t :: ts, [], s, h, _, _, _ => by
    have : setsF s (t :: ts) [] = s := by cases t <;> rfl
    rw [this]; exact h
  | t :: ts, x :: xs, s, h, hr, ho, hx => by
    rw [oks_cons, Bool.and_eq_true] at ho
    rw [List.length_cons] at hr
    have h1 := hr.code
    have h2 := hx x (by simp)
    by_cases hk : t.c0.kind = 3
    · rw [setsF_fun _ _ _ _ _ hk]
      exact fit_sets ts xs _ (fit_emit h (by omega) (wfI (i64_small (by decide) (by decide)) (i64_small (by omega) (by omega)) i64_0 i64_0 empty_size)) (room_emit _ hr) ho.2 (fun y hy => hx y (by simp [hy]))
    · rw [setsF_one _ _ _ _ _ hk]
      exact fit_sets ts xs _ (fit_one h (hr.le (by omega)) ho.1 (i64_small (by decide) (by decide)) (i64_small (by decide) (by decide)) (i64_small (by decide) (by decide))) (room_one _ _ _ _ hr) ho.2 (fun y hy => hx y (by simp [hy]))
mutual
theorem fit_build : ∀ (t : Tm) (s : St), s.fit 100000 → s.room (bwt t) → t.ok = true → (buildF s t).1.fit 100000
  | .v n, s, h, _, _ => h
  | .i n, s, h, _, _ => h
  | .f nm us, s, h, hr, ho => by
    have hw := c0_wf ho
    have ho2 := args_ok ho
    rw [buildF_fun s _ rfl]
    have hw2 : bwt (.f nm us) = 1 + 2 * sizes us := rfl
    have hle := bwts_le us
    rw [hw2] at hr
    have h1 := argsF_room us s (us.length + 1) (hr.le (by omega))
    obtain ⟨h2, h3⟩ := fit_args us s h (hr.le (by omega)) ho2
    have h4 := h1.next
    have h5 := h1.code
    refine fit_sets us _ _ (fit_emit (fit_bump h2 (by simp only [Tm.args]; omega)) (by simp [Tm.args, St.bump]; omega) (wfI (i64_small (by decide) (by decide)) i64_0 (i64_small (by simp only [Tm.args]; omega) (by simp only [Tm.args]; omega)) hw.n hw.name)) ?_ ho2 h3
    refine ⟨?_, ?_, ?_⟩
    · simp [Tm.args, St.emit, St.bump]; omega
    · simp [Tm.args, St.emit, St.bump]; omega
    · have := h1.vars; simp [Tm.args, St.emit, St.bump]; omega
theorem fit_args : ∀ (ts : List Tm) (s : St), s.fit 100000 → s.room (bwts ts) → oks ts = true → (argsF s ts).1.fit 100000 ∧ ∀ x ∈ (argsF s ts).2, -1 ≤ x ∧ x ≤ 100000
  | [], s, h, _, _ => ⟨h, by simp [argsF]⟩
  | t :: ts, s, h, hr, ho => by
    rw [oks_cons, Bool.and_eq_true] at ho
    rw [argsF_cons]
    have e : bwts (t :: ts) = bwt t + bwts ts := rfl
    rw [e] at hr
    have h1 := fit_build t s h (hr.le (by omega)) ho.1
    have h2 := fit_args ts _ h1 (buildF_room t s (bwts ts) hr) ho.2
    refine ⟨h2.1, fun x hx => ?_⟩
    rcases List.mem_cons.1 hx with rfl | hx
    · exact buildF_small s t (hr.le (by omega))
    · exact h2.2 x hx
end
/-- a state and a register are handed back -/
def RetBu (w : World) (A0 : Option Addr) (n0 : Nat) (B0 : Option Addr) (m0 : Nat) (D0 : Option Addr) (p0 : Nat) (s : St) (r : Int) (e : Ending) (w' : World) : Prop := ∃ A n c B m d D p q, e = .returned (.tuple #[stVal A n c B m d D p q s.next, .int .i64 r]) ∧ StAt w' A n c B m d D p q s ∧ NewOr w A0 n0 A n ∧ NewOr w B0 m0 B m ∧ NewOr w D0 p0 D p ∧ Below w.heap.size w w'
/-- a slice that does not lie in the block of another one -/
def Far (T : Option Addr) (A : Option Addr) (n : Nat) : Prop := ∀ a, T = some a → Off A n a.block
theorem Far.new {w : World} {T B0 B : Option Addr} {m0 m : Nat} (h : Far T B0 m0) (hT : ∀ a, T = some a → a.block < w.heap.size) (hn : NewOr w B0 m0 B m) : Far T B m := fun a ha => (h a ha).new (hT a ha) hn
theorem Far.app {w w' : World} {T T' A : Option Addr} {n c size : Nat} {xs : List Value} (h : Far T A n) (hap : Apart w w' T T') (hs : Sl w size A n c xs) : Far T' A n := fun a ha hn a' ha' => by
  rcases (hap.blk a ha).2 with ⟨a0, h0, he⟩ | h2
  · rw [he]; exact h a0 h0 hn a' ha'
  · obtain ⟨g, off, h3, hlt, _⟩ := hs.cells hn
    rw [h3] at ha'
    cases ha'
    simp only
    omega
/-- what is read outside a row that grows is read on -/
theorem Sl.far {w w' : World} {T T' A : Option Addr} {n c size : Nat} {xs : List Value} (h : Sl w size A n c xs) (hap : Apart w w' T T') (hf : Far T A n) : Sl w' size A n c xs := by
  refine ⟨h.len, h.hcap, h.hmax, fun hn => ?_⟩
  obtain ⟨g, off, rfl, hlt, hc⟩ := h.cells hn
  refine ⟨g, off, rfl, Nat.lt_of_lt_of_le hlt hap.size, fun j u hu => ?_⟩
  rw [← hc j u hu]
  exact World.cell?_of_block (hap.old g hlt fun a ha he => hf a ha hn _ rfl he.symm)
theorem StAt.far {w w' : World} {T T' A B D : Option Addr} {n c m d p e : Nat} {s : St} (h : StAt w A n c B m d D p e s) (hap : Apart w w' T T') (hA : Far T A n) (hB : Far T B m) (hD : Far T D p) : StAt w' A n c B m d D p e s ∧ Far T' A n ∧ Far T' B m ∧ Far T' D p := by
  obtain ⟨vs, h1, h2, h3, h4⟩ := h.code.rows
  exact ⟨⟨⟨h.code.len, vs, h1, h2, h3.far hap hA, fun i x v hx hv => h4 i x v hx hv⟩, ⟨h.vars.sl.far hap hB, h.vars.wf⟩, ⟨h.regs.sl.far hap hD, h.regs.wf⟩⟩, hA.app hap h3, hB.app hap h.vars.sl, hD.app hap h.regs.sl⟩
theorem But.apart {w0 w w' : World} {T T' : Option Addr} {b : Nat} (h : But w0 w b) (ho : w'.os = w.os) (ht : w'.tape = w.tape) (hu : w'.output = w.output) (hap : Apart w w' T T') (hT : ∀ a, T = some a → w0.heap.size ≤ a.block) : But w0 w' b :=
  ⟨ho.trans h.os, ht.trans h.tape, hu.trans h.output, Nat.le_trans h.size hap.size, fun k hk hne => (hap.old k (Nat.lt_of_lt_of_le hk h.size) fun a ha he => by have := hT a ha; omega).trans (h.block k hk hne)⟩

set_option maxRecDepth 100000 in
set_option maxHeartbeats 8000000 in
theorem rbuild_any (W : World) (N : Nat) : ∀ (s : St) (T : Tm) (A : Option Addr) (n c : Nat) (B : Option Addr) (m d : Nat) (D : Option Addr) (p e : Nat) (A' : Option Addr) (n' c' : Nat) (w : World), T.size ≤ N → T.c0.kind = 3 → StAt w A n c B m d D p e s → s.fit 100000 → s.room (bwt T) →
    IsC W A' n' c' T.flat → Below W.heap.size W w → T.ok = true → T.size ≤ 200 →
    Calls Try.prog 35 #[stVal A n c B m d D p e s.next, .slice A' n' c'] w (RetBu w A n B m D p (buildF s T).1 (buildF s T).2) := by
  induction N with
  | zero => intro s T A n c B m d D p e A' n' c' w hN; have := T.size_pos; omega
  | succ N ih =>
  intro s T A n c B m d D p e A' n' c' w hN hk3 h hs hr hW hbW hT hTs
  have Ih := Lib.hid ih
  clear ih
  have hpf := parts_flat hT hTs
  have hright := right_flat hT hTs
  have h6 := args_len hT
  have hok := args_ok hT
  have hsz := size_args T
  have hw0' := c0_wf hT
  have hbu := buildF_fun s T hk3
  have hbw : bwt T = 1 + 2 * sizes T.args := by simp [bwt, hk3]
  rw [hbw] at hr
  have hwts := bwts_le T.args
  have Hr := Lib.hid hr
  have Hbu := Lib.hid hbu
  obtain ⟨bt, ot, rfl, hbt, ev0, ev1, ev2, hnt⟩ := hW.tm
  have hnt' : (0 : Int) < (n' : Int) := by omega
  unfold stVal
  go_enter Try.func35, Try.ntmps35
  go_upto_region 1 with fail
  (refine wp_world' (Φ := fun X => Below w.heap.size w X ∧ w.heap.size + 2 ≤ X.heap.size ∧ X.heap[w.heap.size]? = some (.cells #[.slice A n c, .int .i64 s.next, .slice B m d, .slice D p e] 72 (0, 0)) ∧ X.heap[w.heap.size + 1]? = some (.cells #[.slice none 0 0, .int .i64 0, .slice none 0 0, .slice none 0 0] 72 (0, 0))) ⟨((Below.refl _ _).alloc (Nat.le_refl _) _).alloc (by simp) _, by simp, (alloc_past (by simp)).trans (alloc_at rfl), alloc_at (by simp)⟩ ?_)
  rintro X ⟨hbX, hsX, x0, x1⟩
  obtain ⟨b1, hb1⟩ : ∃ b1, b1 = w.heap.size + 1 := ⟨_, rfl⟩
  obtain ⟨b0, hb0⟩ : ∃ b0, b0 = w.heap.size := ⟨_, rfl⟩
  rw [← hb1] at x1 ⊢
  rw [← hb0] at x0 ⊢
  have hparts := rParts_w W (some ⟨bt, ot, none⟩) n' c' T.flat X hW (hbW.trans (hbX.mono hbW.size)) hright
  rw [hpf] at hparts
  have Hparts := Lib.hid hparts
  have hne1 : ¬ b1 = b0 := by omega
  have hne2 : ¬ b0 = b1 := by omega
  have hl0 : b0 < X.heap.size := by omega
  have hl1 : b1 < X.heap.size := by omega
  have hw0 : w.heap.size ≤ b0 := by omega
  have hw1 : w.heap.size ≤ b1 := by omega
  have hwX : w.heap.size ≤ X.heap.size := by omega
  clear hparts hpf hright hb0 hb1 hsX hr hbu
  go_wp2_with (first
    | (go_at_call 27; go_must (refine Hparts.out.mono ?_); rintro e w3 ⟨Ap, np, cp, vs, rfl, hlp, hop, hrows, hb3⟩))
  have hsp := Sl.own hop (by omega)
  rw [List.length_map] at hlp
  have Hlp := Lib.hid hlp
  have hnp6 : np ≤ 6 := by omega
  have hb4 : Below w.heap.size w w3 := hbX.trans (hb3.mono hwX)
  have h3 := h.below hb4
  have hoff := h.off hw0
  have hoff1 := h.off hw1
  have z0 := (hb3.block b0 hl0).trans x0
  have z1 := (hb3.block b1 hl1).trans x1
  have hs3 := hb3.size
  have hbp : ∀ a, Ap = some a → a.block ≠ b0 ∧ a.block ≠ b1 := fun a ha => by have := (Own0.lt hop a ha).1; omega
  obtain ⟨UX, hUX⟩ : ∃ UX, argsF s T.args = UX := ⟨_, rfl⟩
  have hstart : (argsF s (T.args.drop 0)).1 = UX.1 ∧ [] ++ (argsF s (T.args.drop 0)).2 = UX.2 := by rw [List.drop_zero, hUX]; exact ⟨rfl, rfl⟩
  have Hstart := Lib.hid hstart
  have HUX := Lib.hid hUX
  have hl03 : b0 < w3.heap.size := Nat.lt_of_lt_of_le hl0 hs3
  have hl13 : b1 < w3.heap.size := Nat.lt_of_lt_of_le hl1 hs3
  have hfar : Far (some ⟨w3.heap.size, 0, none⟩) A n ∧ Far (some ⟨w3.heap.size, 0, none⟩) B m ∧ Far (some ⟨w3.heap.size, 0, none⟩) D p := by
    have := h3.off (Nat.le_refl w3.heap.size)
    exact ⟨fun a ha => by cases ha; exact this.1, fun a ha => by cases ha; exact this.2.1, fun a ha => by cases ha; exact this.2.2⟩
  clear hlp hop hstart hUX x0 x1
  go_loopw [7, 8] (fun rv i wr => ∃ (j : Nat) (s2 : St) (A2 : Option Addr) (n2 c2 : Nat) (B2 : Option Addr) (m2 d2 : Nat) (D2 : Option Addr) (p2 q2 : Nat) (At : Option Addr) (ct : Nat) (xs2 : List Int), j ≤ np ∧ i = .int .i64 j ∧ rv = .slice At j ct ∧
      wr.heap[b0]? = some (.cells #[.slice A2 n2 c2, .int .i64 s2.next, .slice B2 m2 d2, .slice D2 p2 q2] 72 (0, 0)) ∧ StAt wr A2 n2 c2 B2 m2 d2 D2 p2 q2 s2 ∧ (Off A2 n2 b0 ∧ Off B2 m2 b0 ∧ Off D2 p2 b0) ∧ s2.fit 100000 ∧
      Tail wr w3.heap.size 3 1 At j ct (xs2.map (Value.int .i64)) ∧ (∀ a, At = some a → w3.heap.size ≤ a.block ∧ a.block < wr.heap.size) ∧ (Far At A2 n2 ∧ Far At B2 m2 ∧ Far At D2 p2) ∧ (∀ x ∈ xs2, -1 ≤ x ∧ x ≤ 100000) ∧
      Hid ((argsF s2 (T.args.drop j)).1 = UX.1 ∧ xs2 ++ (argsF s2 (T.args.drop j)).2 = UX.2) ∧ Hid (s2.room (bwts (T.args.drop j) + (T.args.length + 1))) ∧ But w3 wr b0 ∧ (NewOr w3 A n A2 n2 ∧ NewOr w3 B m B2 m2 ∧ NewOr w3 D p D2 p2)) (fun _ i _ => np - (intOf i).toNat)
  case atStart => exact ⟨0, s, A, n, c, B, m, d, D, p, e, _, 0, [], Nat.zero_le _, rfl, rfl, (alloc_past hl03).trans z0, h3.below ((Below.refl _ _).alloc (Nat.le_refl _) _), hoff, hs, Tail.nil _ _ _ _ _, fun a ha => by cases ha; simp, hfar, by simp, Hstart, Lib.hid (Hr.out.le (by simp; omega)), (But.refl _ _).alloc _, .inl ⟨rfl, rfl⟩, .inl ⟨rfl, rfl⟩, .inl ⟨rfl, rfl⟩⟩
  case round =>
    clear h3 hoff hs Hstart z0 hfar
    obtain ⟨j, s2, A2, n2, c2, B2, m2, d2, D2, p2, q2, At, ct, xs2, hj, rfl, rfl, hx0, h2, ⟨hoA, hoB, hoD⟩, hfit, hTl, hTlt, ⟨hfA, hfB, hfD⟩, hsm, hres, hroom, hbut, hnA, hnB, hnD⟩ := hrel
    have hsw := hbut.size
    by_cases hlt : j < np
    · obtain ⟨t2, ht2⟩ : ∃ t2, T.args[j]? = some t2 := ⟨_, List.getElem?_eq_getElem (by have := Hlp.out; omega)⟩
      have hd := drop_get ht2
      have hok2 := ok_mem hok (List.mem_of_getElem? ht2)
      have hsz2 := size_mem (List.mem_of_getElem? ht2)
      obtain ⟨A5, n5, c5, hv5, hc5⟩ := hrows.2 j t2.flat (by rw [List.getElem?_map, ht2]; rfl)
      obtain ⟨bp, op_, rfl, hbpl, hcp⟩ := hsp.cells (by omega)
      have hcell5 := (World.cell?_of_block (a := ⟨bp, op_ + j, none⟩) (hbut.block bp hbpl (hbp _ rfl).1)).trans (hcp j _ hv5)
      have hbp2 : bp < wr.heap.size := by omega
      have hcap5 := hsp.hcap
      have hc5' := hc5
      obtain ⟨b5, off5, rfl, hb5', g0, g1, g2, hn5⟩ := hc5.tm
      have hWr : Below W.heap.size W wr := hbW.trans ((hb4.trans (hbut.below hw0 hb4.size)).mono hbW.size)
      obtain ⟨hcW5, _⟩ := bcell hWr
      have g0' := (hcW5 b5 off5 hb5').trans g0
      have hlt5 : b5 < wr.heap.size := Nat.lt_of_lt_of_le hb5' hWr.size
      have hn05 : (0 : Int) < (n5 : Int) := by omega
      have Hd := Lib.hid hd
      obtain ⟨y0, y1, y2, y3, f0, f1, f2, f3, bl0⟩ := open4 hx0
      have hlb0 := block_lt hx0
      have hrm := hroom.out
      rw [hd] at hrm
      have e9 : bwts (t2 :: T.args.drop (j + 1)) = bwt t2 + bwts (T.args.drop (j + 1)) := rfl
      rw [e9] at hrm
      obtain ⟨s3, hs3e⟩ : ∃ s3, (buildF s2 t2).1 = s3 := ⟨_, rfl⟩
      obtain ⟨x3, hx3e⟩ : ∃ x3, (buildF s2 t2).2 = x3 := ⟨_, rfl⟩
      have hfit3 : s3.fit 100000 := by rw [← hs3e]; exact fit_build t2 s2 hfit (hrm.le (by omega)) hok2
      have hroom3 : s3.room (bwts (T.args.drop (j + 1)) + (T.args.length + 1)) := by rw [← hs3e]; exact buildF_room t2 s2 _ (hrm.le (by omega))
      have hx3s : -1 ≤ x3 ∧ x3 ≤ 100000 := by rw [← hx3e]; exact buildF_small s2 t2 (hrm.le (by omega))
      have hres3 : (argsF s3 (T.args.drop (j + 1))).1 = UX.1 ∧ (xs2 ++ [x3]) ++ (argsF s3 (T.args.drop (j + 1))).2 = UX.2 := by
        have := hres.out
        rw [Hd.out, argsF_cons, hs3e, hx3e] at this
        exact ⟨this.1, by rw [List.append_assoc]; exact this.2⟩
      have Hroom3 := Lib.hid hroom3
      have Hres3 := Lib.hid hres3
      have hrm2 := hrm.le (j := bwt t2) (by omega)
      have nbp : ¬ bp = b0 := (hbp _ rfl).1
      have nbp' : ¬ b0 = bp := fun h => nbp h.symm
      have hn5b : ¬ b5 = b0 := by have := hbW.size; omega
      have hn5b' : ¬ b0 = b5 := fun h => hn5b h.symm
      clear hd ht2 hcp hcW5 g0 g1 g2 hv5 hres hroom hrm hres3 hroom3
      have Hs3 := Lib.hid hs3e
      have Hx3 := Lib.hid hx3e
      clear hs3e hx3e
      by_cases hk : t2.c0.kind = 3
      · have hbk : (t2.c0.kind == 3) = true := by simp [hk]
        have hrec := fun (w' : World) (hb' : Below wr.heap.size wr w') => Ih.out s2 t2 A2 n2 c2 B2 m2 d2 D2 p2 q2 (some ⟨b5, off5, none⟩) n5 c5 w' (by omega) hk (h2.below hb') hfit hrm2 hc5' (hWr.trans (hb'.mono hWr.size)) hok2 (by omega)
        rw [Hs3.out, Hx3.out] at hrec
        have Hrec := Lib.hid hrec
        clear hrec
        go_upto_region 8 with fail
        go_region_with (first
            | (go_at_call 35; refine (Hrec.out _ (Below.refl _ _).drew).mono ?_; rintro e w7 ⟨A7, n7, c7, B7, m7, d7, D7, p7, q7, rfl, hst7, hnA7, hnB7, hnD7, hb7⟩; (have hb7w : Below wr.heap.size wr w7 := Below.trans (Below.refl _ _).drew hb7); (have v07 := (hb7w.block b0 hlb0).trans hx0); (obtain ⟨e0, e1, e2, e3, h0, h1, h2', h3, v7l⟩ := open4 v07); (have k4 := (hb7w.cell (p := ⟨bp, op_ + j, none⟩) hbp2).trans hcell5); simp only [stVal])
            | fail)
        all_goals
          refine on_world (Φ := fun V => But wr V b0 ∧ V.heap[b0]? = some (.cells #[.slice A7 n7 c7, .int .i64 s3.next, .slice B7 m7 d7, .slice D7 p7 q7] 72 (0, 0)) ∧ StAt V A7 n7 c7 B7 m7 d7 D7 p7 q7 s3 ∧ NewOr wr A2 n2 A7 n7 ∧ NewOr wr B2 m2 B7 m7 ∧ NewOr wr D2 p2 D7 p7)
            ⟨(But.of hb7w).trans (but4 _ _ _ _ _ _), set4 v07 _ _ _ _, hst7.but4 (hoA.new hlb0 (hnA7.lower (w := wr) (by simp))) (hoB.new hlb0 (hnB7.lower (w := wr) (by simp))) (hoD.new hlb0 (hnD7.lower (w := wr) (by simp))) _ _ _ _, hnA7.lower (by simp), hnB7.lower (by simp), hnD7.lower (by simp)⟩ ?_
          clear hnA7 hnB7 hnD7 v07 hb7w hb7 hst7 e0 e1 e2 e3 h0 h1 h2' h3 k4 v7l
          rintro V ⟨hbV, v0, hstV, hnA7, hnB7, hnD7⟩
          have vl0 := block_lt v0
          have hTV : Tail V w3.heap.size 3 1 At j ct (xs2.map (Value.int .i64)) := hTl.at_ fun a ha => hbV.block _ (hTlt a ha).2 (by have := (hTlt a ha).1; omega)
          have hVs := hbV.size
          have hfA7 := hfA.new (fun a ha => (hTlt a ha).2) hnA7
          have hfB7 := hfB.new (fun a ha => (hTlt a ha).2) hnB7
          have hfD7 := hfD.new (fun a ha => (hTlt a ha).2) hnD7
          have hoA7 := hoA.new hlb0 hnA7
          have hoB7 := hoB.new hlb0 hnB7
          have hoD7 := hoD.new hlb0 hnD7
          go_wp2_with (first
            | (at_builtin; go_must (refine wpList_append_tail (xs := xs2.map (Value.int .i64)) rfl (.tmp 41) (.tmp 43) 70 rfl w3.heap.size 3 Try.underlying70 infoI rfl (by omega) rfl (hTV.below ((Below.refl _ _).alloc (Nat.le_refl _) _)) rfl (Sl.blk (cs := #[.int .i64 x3]) (t := 3) (alloc_at rfl) rfl (by simp [maxLen])) (by simp [Value.oneCell']) (by omega) (by omega) (by omega) (by simp; omega) ?_); intro A1 cap1 w1 hc1 ht1 hbn1 hap1))
          obtain ⟨hst9, q1, q2', q3⟩ := (hstV.below ((Below.refl _ _).alloc (Nat.le_refl _) (.cells #[.int .i64 x3] 3))).far hap1 hfA7 hfB7 hfD7
          have hq0 := (hap1.old b0 (by simp; omega) (fun a ha he => by have := (hTlt a ha).1; omega)).trans ((alloc_past vl0).trans v0)
          have hbut9 : But w3 w1 b0 := ((hbut.trans hbV).alloc _).apart hbn1.os hbn1.tape hbn1.output hap1 (fun a ha => (hTlt a ha).1)
          have hA1lt : ∀ a, A1 = some a → w3.heap.size ≤ a.block ∧ a.block < w1.heap.size := fun a ha => by
            have h1 := hap1.blk a ha
            refine ⟨?_, h1.1⟩
            rcases h1.2 with ⟨a0, h2, h3⟩ | h2
            · rw [h3]; exact (hTlt a0 h2).1
            · simp at h2; omega
          go_roundw
          case rel => exact ⟨j + 1, s3, A7, n7, c7, B7, m7, d7, D7, p7, q7, A1, cap1, xs2 ++ [x3], by omega, by go_num, rfl, hq0, hst9, ⟨hoA7, hoB7, hoD7⟩, hfit3, by simpa using ht1, hA1lt, ⟨q1, q2', q3⟩, fun x hx => (List.mem_append.1 hx).elim (hsm x) (fun hx => by simp at hx; subst hx; exact hx3s), Hres3, Hroom3, hbut9, hnA.trans (hnA7.lower hsw) (Nat.le_refl _), hnB.trans (hnB7.lower hsw) (Nat.le_refl _), hnD.trans (hnD7.lower hsw) (Nat.le_refl _)⟩
          case measure => simp [intOf]; omega
      · have hbk : (t2.c0.kind == 3) = false := by simp [hk]
        have h1e := buildF_one s2 t2 hk
        have e3 : s3 = s2 := by rw [← Hs3.out, h1e]
        have ex3 : x3 = -1 := by rw [← Hx3.out, h1e]
        clear Hs3 Hx3 h1e
        subst e3
        subst ex3
        have hbV := But.refl wr b0
        have hstV := h2
        have v0 := hx0
        have vl0 := hlb0
        have hnA7 : NewOr wr A2 n2 A2 n2 := .inl ⟨rfl, rfl⟩
        have hnB7 : NewOr wr B2 m2 B2 m2 := .inl ⟨rfl, rfl⟩
        have hnD7 : NewOr wr D2 p2 D2 p2 := .inl ⟨rfl, rfl⟩
        have hTV : Tail wr w3.heap.size 3 1 At j ct (xs2.map (Value.int .i64)) := hTl.at_ fun a ha => hbV.block _ (hTlt a ha).2 (by have := (hTlt a ha).1; omega)
        have hVs := hbV.size
        have hfA7 := hfA.new (fun a ha => (hTlt a ha).2) hnA7
        have hfB7 := hfB.new (fun a ha => (hTlt a ha).2) hnB7
        have hfD7 := hfD.new (fun a ha => (hTlt a ha).2) hnD7
        have hoA7 := hoA.new hlb0 hnA7
        have hoB7 := hoB.new hlb0 hnB7
        have hoD7 := hoD.new hlb0 hnD7
        go_wp2_with (first
          | (at_builtin; go_must (refine wpList_append_tail (xs := xs2.map (Value.int .i64)) rfl (.tmp 41) (.tmp 43) 70 rfl w3.heap.size 3 Try.underlying70 infoI rfl (by omega) rfl (hTV.below ((Below.refl _ _).alloc (Nat.le_refl _) _)) rfl (Sl.blk (cs := #[.int .i64 (-1)]) (t := 3) (alloc_at rfl) rfl (by simp [maxLen])) (by simp [Value.oneCell']) (by omega) (by omega) (by omega) (by simp; omega) ?_); intro A1 cap1 w1 hc1 ht1 hbn1 hap1))
        obtain ⟨hst9, q1, q2', q3⟩ := (hstV.below ((Below.refl _ _).alloc (Nat.le_refl _) (.cells #[.int .i64 (-1)] 3))).far hap1 hfA7 hfB7 hfD7
        have hq0 := (hap1.old b0 (by simp; omega) (fun a ha he => by have := (hTlt a ha).1; omega)).trans ((alloc_past vl0).trans v0)
        have hbut9 : But w3 w1 b0 := ((hbut.trans hbV).alloc _).apart hbn1.os hbn1.tape hbn1.output hap1 (fun a ha => (hTlt a ha).1)
        have hA1lt : ∀ a, A1 = some a → w3.heap.size ≤ a.block ∧ a.block < w1.heap.size := fun a ha => by
          have h1 := hap1.blk a ha
          refine ⟨?_, h1.1⟩
          rcases h1.2 with ⟨a0, h2, h3⟩ | h2
          · rw [h3]; exact (hTlt a0 h2).1
          · simp at h2; omega
        go_roundw
        case rel => exact ⟨j + 1, s3, A2, n2, c2, B2, m2, d2, D2, p2, q2, A1, cap1, xs2 ++ [-1], by omega, by go_num, rfl, hq0, hst9, ⟨hoA7, hoB7, hoD7⟩, hfit3, by simpa using ht1, hA1lt, ⟨q1, q2', q3⟩, fun x hx => (List.mem_append.1 hx).elim (hsm x) (fun hx => by simp at hx; subst hx; exact hx3s), Hres3, Hroom3, hbut9, hnA.trans (hnA7.lower hsw) (Nat.le_refl _), hnB.trans (hnB7.lower hsw) (Nat.le_refl _), hnD.trans (hnD7.lower hsw) (Nat.le_refl _)⟩
        case measure => simp [intOf]; omega
    · have hje : np = j := by omega
      subst hje
      have hdn : T.args.drop np = [] := List.drop_eq_nil_of_le (by have := Hlp.out; omega)
      have hfin := hres.out
      rw [hdn] at hfin
      have hfin1 : s2 = UX.1 := hfin.1
      have hfin2 : xs2 = UX.2 := by have := hfin.2; simpa [argsF] using this
      have hroom5 : s2.room (T.args.length + 1) := hroom.out.le (by omega)
      have Hfin1 := Lib.hid hfin1
      have Hfin2 := Lib.hid hfin2
      clear hres hroom hfin hdn hfin1 hfin2
      have hWr : Below W.heap.size W wr := hbW.trans ((hb4.trans (hbut.below hw0 hb4.size)).mono hbW.size)
      obtain ⟨hcWt, _⟩ := bcell hWr
      have g1 := (hcWt bt (ot + 1) hbt).trans ev1
      have g2 := (hcWt bt (ot + 2) hbt).trans ev2
      have hltt : bt < wr.heap.size := Nat.lt_of_lt_of_le hbt hWr.size
      have hntb : ¬ bt = b0 := by have := hbW.size; omega
      have hntb' : ¬ b0 = bt := fun h => hntb h.symm
      have hcd5 := hroom5.code
      have hnx5 := hroom5.next
      have hlb0 := block_lt hx0
      obtain ⟨y0, y1, y2, y3, f0, f1, f2, f3, bl0⟩ := open4 hx0
      have hwf8 : ({ op := 8, a := (s2.next : Int), name := T.c0.name, n := T.c0.n } : In).wf := wfI (i64_small (by decide) (by decide)) i64_0 (i64_small (by omega) (by omega)) hw0'.n hw0'.name
      clear hcWt
      go_upto_region 12 with fail
      have hz0 := set_block (k := 1) hx0 (.int .i64 ((s2.next : Int) + 1))
      simp at hz0
      refine wp_world' (Φ := fun V => But wr V b0 ∧ V.heap[b0]? = some (.cells #[.slice A2 n2 c2, .int .i64 s2.bump.next, .slice B2 m2 d2, .slice D2 p2 q2] 72 (0, 0)) ∧ StAt V A2 n2 c2 B2 m2 d2 D2 p2 q2 s2.bump)
        ⟨But.set wr b0 1 _, by simpa [St.bump] using hz0, by have := h2.but (But.set wr b0 1 (.int .i64 ((s2.next : Int) + 1))) hoA hoB hoD; exact ⟨this.code, this.vars, this.regs⟩⟩ ?_
      rintro V ⟨hbV, v0, hstV⟩
      clear hz0 y0 y1 y2 y3 f0 f1 f2 f3 bl0
      obtain ⟨y0, y1, y2, y3, f0, f1, f2, f3, vl⟩ := open4 v0
      have k1 := (World.cell?_of_block (a := ⟨bt, ot + 1, none⟩) (hbV.block bt hltt hntb)).trans g1
      have k2 := (World.cell?_of_block (a := ⟨bt, ot + 2, none⟩) (hbV.block bt hltt hntb)).trans g2
      have hlttV := Nat.lt_of_lt_of_le hltt hbV.size
      have hn2 : n2 ≤ 100000 := by have := h2.code.len; omega
      go_cut [62] (fun rv U => ∃ (A7 : Option Addr) (n7 c7 : Nat), But wr U b0 ∧ U.heap[b0]? = some (.cells #[.slice A7 n7 c7, .int .i64 (s2.bump.emit { op := 8, a := (s2.next : Int), name := T.c0.name, n := T.c0.n }).next, .slice B2 m2 d2, .slice D2 p2 q2] 72 (0, 0)) ∧ StAt U A7 n7 c7 B2 m2 d2 D2 p2 q2 (s2.bump.emit { op := 8, a := (s2.next : Int), name := T.c0.name, n := T.c0.n }) ∧ NewOr wr A2 n2 A7 n7)
      case first =>
        go_region_with (first
            | (go_at_call 36; refine (remit_any s2.bump { op := 8, a := (s2.next : Int), name := T.c0.name, n := T.c0.n } A2 n2 c2 B2 m2 d2 D2 p2 q2 _ (hstV.below (Below.refl _ _).drew) hwf8 hn2).mono ?_; rintro e w7 ⟨A7, n7, c7, rfl, hst7, hnA7, hb7⟩; (have hb7w : Below V.heap.size V w7 := Below.trans (Below.refl _ _).drew hb7); (have v07 := (hb7w.block b0 vl).trans v0); (obtain ⟨e0, e1, e2, e3, h0, h1, h2', h3, v7l⟩ := open4 v07); (have k4 := (hb7w.cell (p := ⟨bt, ot + 1, none⟩) hlttV).trans k1); (have k5 := (hb7w.cell (p := ⟨bt, ot + 2, none⟩) hlttV).trans k2); simp only [stVal])
            | fail)
        all_goals
          have hoA7 := hoA.new (w := V) vl (hnA7.lower (by simp))
          go_wp2_with fail
          go_meet
          exact ⟨A7, n7, c7, hbV.trans ((But.of hb7w).trans (but4 _ _ _ _ _ _)), set4 v07 _ _ _ _, hst7.but4 hoA7 hoB hoD _ _ _ _, hnA7.lower (by simpa using hbV.size)⟩
      case rest =>
        obtain ⟨A7, n7, c7, hbU, u0, hstU, hnA7⟩ := hcut
        generalize wc = U at *
        have hoA7 := hoA.new hlb0 hnA7
        clear y0 y1 y2 y3 f0 f1 f2 f3 k1 k2 v0 hstV hbV hlttV g1 g2
        have hfit6 : (s2.bump.emit { op := 8, a := (s2.next : Int), name := T.c0.name, n := T.c0.n }).fit 100000 := fit_emit (fit_bump hfit (by omega)) (by simp [St.bump]; omega) hwf8
        have hroom6 : (s2.bump.emit { op := 8, a := (s2.next : Int), name := T.c0.name, n := T.c0.n }).room T.args.length := ⟨by simp [St.emit, St.bump]; omega, by simp [St.emit, St.bump]; omega, by have := hroom5.vars; simp [St.emit, St.bump]; omega⟩
        obtain ⟨s6, hs6⟩ : ∃ s6, s2.bump.emit { op := 8, a := (s2.next : Int), name := T.c0.name, n := T.c0.n } = s6 := ⟨_, rfl⟩
        obtain ⟨TOT, hTOT⟩ : ∃ TOT, setsF s6 T.args xs2 = TOT := ⟨_, rfl⟩
        have hbuild : buildF s T = (TOT, (s2.next : Int)) := by rw [Hbu.out, HUX.out, ← Hfin1.out, ← Hfin2.out, hs6, hTOT]
        have Hbuild := Lib.hid hbuild
        rw [hs6] at hfit6 hroom6 hstU u0
        have hxl : xs2.length = np := by have h1 := argsF_len T.args s; rw [HUX.out, ← Hfin2.out] at h1; have := Hlp.out; omega
        have hstart2 : setsF s6 (T.args.drop 0) (xs2.drop 0) = TOT := by simpa using hTOT
        have Hstart2 := Lib.hid hstart2
        have hbut6 := hbut.trans hbU
        have hat : Sl U 1 At np ct (xs2.map (Value.int .i64)) := (hTl.sl (by omega)).but' hbU (fun _ a ha => by have := (hTlt a ha).1; omega)
        obtain ⟨nx, hnx⟩ : ∃ nx, s2.next = nx := ⟨_, rfl⟩
        rw [hnx] at Hbuild ⊢
        have hnA6 := hnA.trans (hnA7.lower hsw) (Nat.le_refl _)
        have hbut6s := hbut6.size
        clear hTOT hbuild hstart2 hs6 hnx hnA7 hbU hTl h2 hx0 hbut hfit hWr hroom5 hfA hfB hfD hnA hwf8
        go_wp2
        go_loopw [11] (fun i wr => ∃ (j : Nat) (s2 : St) (A2 : Option Addr) (n2 c2 : Nat) (B2 : Option Addr) (m2 d2 : Nat) (D2 : Option Addr) (p2 q2 : Nat), j ≤ np ∧ i = .int .i64 j ∧
            wr.heap[b0]? = some (.cells #[.slice A2 n2 c2, .int .i64 s2.next, .slice B2 m2 d2, .slice D2 p2 q2] 72 (0, 0)) ∧ StAt wr A2 n2 c2 B2 m2 d2 D2 p2 q2 s2 ∧ (Off A2 n2 b0 ∧ Off B2 m2 b0 ∧ Off D2 p2 b0) ∧ s2.fit 100000 ∧
            Hid (setsF s2 (T.args.drop j) (xs2.drop j) = TOT) ∧ Hid (s2.room (np - j)) ∧ But U wr b0 ∧ (NewOr w3 A n A2 n2 ∧ NewOr w3 B m B2 m2 ∧ NewOr w3 D p D2 p2)) (fun i _ => np - (intOf i).toNat)
        case atStart => exact ⟨0, s6, A7, n7, c7, B2, m2, d2, D2, p2, q2, Nat.zero_le _, rfl, u0, hstU, ⟨hoA7, hoB, hoD⟩, hfit6, Hstart2, Lib.hid (hroom6.le (by have := Hlp.out; omega)), But.refl _ _, hnA6, hnB, hnD⟩
        case round =>
          clear u0 hstU hoA7 hoA hoB hoD hfit6 Hstart2 hnA6 hnB hnD hroom6
          obtain ⟨j, s2, A2, n2, c2, B2, m2, d2, D2, p2, q2, hj, rfl, hx0, h2, ⟨hoA, hoB, hoD⟩, hfit, hres, hroom, hbut, hnA, hnB, hnD⟩ := hrel
          have hsw : w3.heap.size ≤ wr.heap.size := Nat.le_trans hbut6s hbut.size
          by_cases hlt : j < np
          · obtain ⟨t2, ht2⟩ : ∃ t2, T.args[j]? = some t2 := ⟨_, List.getElem?_eq_getElem (by have := Hlp.out; omega)⟩
            obtain ⟨x2, hx2⟩ : ∃ x2, xs2[j]? = some x2 := ⟨_, List.getElem?_eq_getElem (by omega)⟩
            have hd := drop_get ht2
            have hd2 := drop_get hx2
            have hok2 := ok_mem hok (List.mem_of_getElem? ht2)
            have hsz2 := size_mem (List.mem_of_getElem? ht2)
            have hx2s := hsm x2 (List.mem_of_getElem? hx2)
            obtain ⟨A5, n5, c5, hv5, hc5⟩ := hrows.2 j t2.flat (by rw [List.getElem?_map, ht2]; rfl)
            obtain ⟨bp, op_, rfl, hbpl, hcp⟩ := hsp.cells (by omega)
            have hbpU : bp < U.heap.size := Nat.lt_of_lt_of_le hbpl hbut6s
            have nbp : ¬ bp = b0 := (hbp _ rfl).1
            have hcell5 := (World.cell?_of_block (a := ⟨bp, op_ + j, none⟩) ((hbut.block bp hbpU nbp).trans (hbut6.block bp hbpl nbp))).trans (hcp j _ hv5)
            have hbp2 : bp < wr.heap.size := by have := hbut.size; omega
            have hcap5 := hsp.hcap
            obtain ⟨ba, oa, rfl, hbaU, hcat⟩ := hat.cells (by omega)
            have nba : ¬ ba = b0 := by have := (hTlt _ rfl).1; simp only at this; omega
            have hcella := (World.cell?_of_block (a := ⟨ba, oa + j, none⟩) (hbut.block ba hbaU nba)).trans (hcat j (.int .i64 x2) (by rw [List.getElem?_map, hx2]; rfl))
            have hba2 : ba < wr.heap.size := by have := hbut.size; omega
            have nba' : ¬ b0 = ba := fun h => nba h.symm
            have hcapa := hat.hcap
            obtain ⟨b5, off5, rfl, hb5', g0, g1, g2, hn5⟩ := hc5.tm
            have hWr : Below W.heap.size W wr := hbW.trans ((hb4.trans ((hbut6.trans hbut).below hw0 hb4.size)).mono hbW.size)
            obtain ⟨hcW5, _⟩ := bcell hWr
            have g0' := (hcW5 b5 off5 hb5').trans g0
            have g2' := (hcW5 b5 (off5 + 2) hb5').trans g2
            have hlt5 : b5 < wr.heap.size := Nat.lt_of_lt_of_le hb5' hWr.size
            have hn05 : (0 : Int) < (n5 : Int) := by omega
            have Hd := Lib.hid hd
            have Hd2 := Lib.hid hd2
            obtain ⟨y0, y1, y2, y3, f0, f1, f2, f3, hlb0⟩ := open4 hx0
            have hn5b : ¬ b5 = b0 := by have := hbW.size; omega
            have hrm : s2.room ((np - (j + 1)) + 1) := hroom.out.le (by omega)
            have hw := c0_wf hok2
            have nbp' : ¬ b0 = bp := fun h => nbp h.symm
            have hn5b' : ¬ b0 = b5 := fun h => hn5b h.symm
            clear hd ht2 hcp hcW5 g0 g1 g2 hv5 hx2 hd2 hcat
            cases t2 with
            | v x => 
              simp only [Tm.c0] at g0' g2'
              have hvx : i64 x := hw.n
              obtain ⟨s5, hs5⟩ : ∃ s5, (regF s2 x).1 = s5 := ⟨_, rfl⟩
              obtain ⟨r5, hr5⟩ : ∃ r5, (regF s2 x).2.1 = r5 := ⟨_, rfl⟩
              obtain ⟨fst5, hf5⟩ : ∃ f5, (regF s2 x).2.2 = f5 := ⟨_, rfl⟩
              have hone : oneF 9 10 11 s2 (.v x) = s5.emit { op := if fst5 then 9 else 10, x := r5 } := by rw [← hs5, ← hr5, ← hf5]; rfl
              have hfit5 : s5.fit 100000 := by rw [← hs5]; exact fit_reg hfit (hrm.le (by omega)) hvx
              have hr5b := regF_reg hfit x (by omega)
              have hcd5 := regF_code s2 x
              rw [hr5] at hr5b
              rw [hs5] at hcd5
              have Hone := Lib.hid hone
              have HS := Lib.hid hs5
              have HR := Lib.hid hr5
              have HF := Lib.hid hf5
              clear hone hs5 hr5 hf5
              have na1 : ¬ wr.heap.size = b0 := by omega
              have na2 : ¬ b0 = wr.heap.size := by omega
              have na3 : ¬ wr.heap.size = bp := by omega
              have na4 : ¬ bp = wr.heap.size := by omega
              have na5 : ¬ wr.heap.size = b5 := by omega
              have na6 : ¬ b5 = wr.heap.size := by omega
              go_upto_region 19 with fail
              go_cut [12, 13, 14] (fun pt qt rt wx => ∃ (bN : Nat) (B5 : Option Addr) (m5 d5 : Nat) (D5 : Option Addr) (p5 q5 : Nat), pt = .pointer (some ⟨bN, 0, none⟩) ∧ qt = .int .i64 r5 ∧ rt = .bool fst5 ∧ wx.heap[bN]? = some (.cells #[.slice A2 n2 c2, .int .i64 s5.next, .slice B5 m5 d5, .slice D5 p5 q5] 72 (0, 0)) ∧ wr.heap.size ≤ bN ∧
                  StAt wx A2 n2 c2 B5 m5 d5 D5 p5 q5 s5 ∧ NewOr wr B2 m2 B5 m5 ∧ NewOr wr D2 p2 D5 p5 ∧ Below wr.heap.size wr wx)
              case first =>
                go_region_held3 (fun w' => w'.cell? ⟨b0, 0, none⟩ = some (.slice A2 n2 c2) ∧ w'.cell? ⟨b0, 1, none⟩ = some (.int .i64 s2.next) ∧ w'.cell? ⟨b0, 2, none⟩ = some (.slice B2 m2 d2) ∧ w'.cell? ⟨b0, 3, none⟩ = some (.slice D2 p2 q2) ∧ w'.cell? ⟨bp, op_ + j, none⟩ = some (.slice (some ⟨b5, off5, none⟩) n5 c5) ∧ w'.cell? ⟨b5, off5 + 2, none⟩ = some (.int .i64 x))
                  (go_keep)
                  (first
                    | (go_at_call 56; refine (register_any s2 x A2 n2 c2 B2 m2 d2 D2 p2 q2 _ (h2.below (by repeat (first | exact Below.refl _ _ | refine Below.drew ?_ | refine Below.alloc ?_ ?_ _ | exact Nat.le_refl _ | (first | omega | (simp; done) | (simp; omega))))) hvx hfit).mono ?_; rw [HS.out, HR.out, HF.out]; rintro e w5 ⟨B5, m5, d5, D5, p5, q5, rfl, hst5, hnB5, hnD5, hbn5⟩; (have hb5w : Below wr.heap.size wr w5 := Below.trans (by repeat (first | exact Below.refl _ _ | refine Below.drew ?_ | refine Below.alloc ?_ ?_ _ | exact Nat.le_refl _ | (first | omega | (simp; done) | (simp; omega)))) (hbn5.mono (by first | exact Nat.le_refl _ | (simp; done) | (simp; omega)))); (have k0 := (hb5w.cell (p := ⟨b0, 0, none⟩) hlb0).trans y0); (have k1 := (hb5w.cell (p := ⟨b0, 1, none⟩) hlb0).trans y1); (have k2 := (hb5w.cell (p := ⟨b0, 2, none⟩) hlb0).trans y2); (have k3 := (hb5w.cell (p := ⟨b0, 3, none⟩) hlb0).trans y3); (have k4 := (hb5w.cell (p := ⟨bp, op_ + j, none⟩) hbp2).trans hcell5); (have k5 := (hb5w.cell (p := ⟨b5, off5 + 2, none⟩) hlt5).trans g2'); (first | (have nb := (hbn5.block wr.heap.size (by simp)).trans (alloc_at (w := wr) (g := wr.heap.size) rfl); have nb0 := cells_of nb 0; have nb1 := cells_of nb 1; have nb2 := cells_of nb 2; have nb3 := cells_of nb 3; have nf0 := frozen_of nb 0; have nf1 := frozen_of nb 1; have nf2 := frozen_of nb 2; have nf3 := frozen_of nb 3; have nbl := block_lt nb; simp at nb0 nb1 nb2 nb3) | skip); have hs5w := hb5w.size; have nc1 : ¬ w5.heap.size = b0 := (by omega); have nc2 : ¬ b0 = w5.heap.size := (by omega); have nc3 : ¬ w5.heap.size = bp := (by omega); have nc4 : ¬ bp = w5.heap.size := (by omega); have nc5 : ¬ w5.heap.size = b5 := (by omega); have nc6 : ¬ b5 = w5.heap.size := (by omega); simp only [stVal])
                    | fail)
                all_goals
                  go_wp2_with fail
                  go_meet
                  first
                    | exact ⟨wr.heap.size, B5, m5, d5, D5, p5, q5, rfl, rfl, rfl, set4 nb _ _ _ _, Nat.le_refl _, hst5.but (but4 _ _ _ _ _ _) (h2.off (Nat.le_refl _)).1 (((h2.off (Nat.le_refl _)).2.1).new (by simp) hnB5) (((h2.off (Nat.le_refl _)).2.2).new (by simp) hnD5), hnB5.lower (by simp), hnD5.lower (by simp), Below.setCell (Below.setCell (Below.setCell (Below.setCell hb5w (p := ⟨wr.heap.size, 0, none⟩) (Nat.le_refl _) _) (p := ⟨wr.heap.size, 1, none⟩) (Nat.le_refl _) _) (p := ⟨wr.heap.size, 2, none⟩) (Nat.le_refl _) _) (p := ⟨wr.heap.size, 3, none⟩) (Nat.le_refl _) _⟩
                    | exact ⟨w5.heap.size, B5, m5, d5, D5, p5, q5, rfl, rfl, rfl, alloc_at rfl, hs5w, hst5.below ((Below.refl _ _).alloc (Nat.le_refl _) _), hnB5.lower (by simp), hnD5.lower (by simp), hb5w.alloc hs5w _⟩
              case rest =>
                obtain ⟨bN, B5, m5, d5, D5, p5, q5, rfl, rfl, rfl, hxN, hNl, hst5, hnB5, hnD5, hb5⟩ := hcut
                have hvar : NewOr w3 B m B5 m5 := hnB.trans hnB5 (by omega)
                have hvar2 : NewOr w3 D p D5 p5 := hnD.trans hnD5 (by omega)
                have hoB5 := hoB.new hlb0 hnB5
                have hoD5 := hoD.new hlb0 hnD5
                have hx05 := (hb5.block b0 hlb0).trans hx0
                have ff0 := frozen_of hx05 0
                have ff1 := frozen_of hx05 1
                have ff2 := frozen_of hx05 2
                have ff3 := frozen_of hx05 3
                have fy0 := cells_of hx05 0
                have fy1 := cells_of hx05 1
                have fy2 := cells_of hx05 2
                have fy3 := cells_of hx05 3
                have fn0 := cells_of hxN 0
                have fn1 := cells_of hxN 1
                have fn2 := cells_of hxN 2
                have fn3 := cells_of hxN 3
                have fnl := block_lt hxN
                have fl0 := block_lt hx05
                simp at fy0 fy1 fy2 fy3 fn0 fn1 fn2 fn3
                clear y0 y1 y2 y3 f0 f1 f2 f3 hcell5 g0' g2'
                go_upto_region 21 with fail
                refine wp_world' (Φ := fun V => But wr V b0 ∧ V.heap[b0]? = some (.cells #[.slice A2 n2 c2, .int .i64 s5.next, .slice B5 m5 d5, .slice D5 p5 q5] 72 (0, 0)) ∧ StAt V A2 n2 c2 B5 m5 d5 D5 p5 q5 s5)
                  ⟨(But.of hb5).trans (but4 _ _ _ _ _ _), set4 hx05 _ _ _ _, hst5.but (but4 _ _ _ _ _ _) hoA hoB5 hoD5⟩ ?_
                rintro V ⟨hbV, v0, hstV⟩
                clear hx05 ff0 ff1 ff2 ff3 fy0 fy1 fy2 fy3 fn0 fn1 fn2 fn3 fnl fl0 hxN hst5
                have y0 := cells_of v0 0
                have y1 := cells_of v0 1
                have y2 := cells_of v0 2
                have y3 := cells_of v0 3
                have vl := block_lt v0
                simp at y0 y1 y2 y3
                have hem := fun (op : Int) (hop : i64 op) => remit_any s5 { op := op, x := r5 } A2 n2 c2 B5 m5 d5 D5 p5 q5 V hstV (wfI hop (i64_small (by omega) (by omega)) i64_0 i64_0 empty_size) (by have := hstV.code.len; have := hfit5.code; omega)
                have Hem := Lib.hid hem
                clear hem
                cases fst5
                all_goals
                  go_wp2_with (first
                    | (go_at_call 36; go_must (refine (Hem.out _ (i64_small (by decide) (by decide))).mono ?_); rintro e w7 ⟨A7, n7, c7, rfl, hst7, hnA7, hb7⟩; have v07 := (hb7.block b0 vl).trans v0; obtain ⟨e0, e1, e2, e3, h0, h1, h2', h3, v7l⟩ := open4 v07; simp only [stVal]))
                  have hlen5 : s5.code.length + 1 ≤ 100000 := by rw [hcd5]; have := hrm.code; omega
                  have hb7V := But.of (b := b0) hb7
                  have hone := Hone.out
                  simp only [Bool.false_eq_true, if_false, if_true] at hone
                  go_roundw
                  case rel =>
                    refine ⟨j + 1, s5.emit _, A7, n7, c7, B5, m5, d5, D5, p5, q5, by omega, by go_num, set4 v07 _ _ _ _, hst7.but4 ((hoA.new vl hnA7)) hoB5 hoD5 _ _ _ _, ⟨hoA.new vl hnA7, hoB5, hoD5⟩, fit_emit hfit5 hlen5 (wfI (i64_small (by decide) (by decide)) (i64_small (by omega) (by omega)) i64_0 i64_0 empty_size), Lib.hid ?_, Lib.hid ?_, hbut.trans ((hbV.trans hb7V).trans (but4 _ _ _ _ _ _)), hnA.trans (hnA7.lower (by have := hbV.size; omega)) (Nat.le_refl _), hvar, hvar2⟩
                    · have := hres.out; rw [Hd.out, Hd2.out, setsF_one _ _ _ _ _ (by simp [Tm.c0]), hone] at this; exact this
                    · rw [← hone]; exact room_one _ _ _ _ (hrm.le (by omega))
                  case measure => simp [intOf]; omega
            | i x =>
              simp only [Tm.c0] at g0' g2'
              have hone : oneF 9 10 11 s2 (.i x) = s2.emit { op := 11, n := x } := rfl
              have hwf : ({ op := 11, n := x } : In).wf := wfI (i64_small (by decide) (by decide)) i64_0 i64_0 hw.n empty_size
              have hlen2 : n2 ≤ 100000 := by have := h2.code.len; have := hfit.code; omega
              have hlen5 : s2.code.length + 1 ≤ 100000 := by have := hrm.code; omega
              have Hone := Lib.hid hone
              clear hone
              go_upto_region 25 with fail
              go_region_with (first
                  | (go_at_call 36; refine (remit_any s2 { op := 11, n := x } A2 n2 c2 B2 m2 d2 D2 p2 q2 _ (h2.below (Below.refl _ _).drew) hwf hlen2).mono ?_; rintro e w7 ⟨A7, n7, c7, rfl, hst7, hnA7, hb7⟩; (have hb7w : Below wr.heap.size wr w7 := Below.trans (Below.refl _ _).drew hb7); (have v07 := (hb7w.block b0 hlb0).trans hx0); (obtain ⟨e0, e1, e2, e3, h0, h1, h2', h3, v7l⟩ := open4 v07); (have k4 := (hb7w.cell (p := ⟨bp, op_ + j, none⟩) hbp2).trans hcell5); (have k5 := (hb7w.cell (p := ⟨b5, off5 + 2, none⟩) hlt5).trans g2'); simp only [stVal])
                  | fail)
              all_goals
                have hb7V := But.of (b := b0) hb7w
                go_wp2_with fail
                go_roundw
                case rel =>
                  refine ⟨j + 1, s2.emit _, A7, n7, c7, B2, m2, d2, D2, p2, _, by omega, by go_num, set4 v07 _ _ _ _, hst7.but4 (hoA.new hlb0 hnA7) hoB hoD _ _ _ _, ⟨hoA.new hlb0 hnA7, hoB, hoD⟩, fit_emit hfit hlen5 hwf, Lib.hid ?_, Lib.hid ?_, hbut.trans (hb7V.trans (but4 _ _ _ _ _ _)), hnA.trans (hnA7.lower (by simp; omega)) (Nat.le_refl _), hnB, hnD⟩
                  · have := hres.out; rw [Hd.out, Hd2.out, setsF_one _ _ _ _ _ (by simp [Tm.c0]), Hone.out] at this; exact this
                  · rw [← Hone.out]; exact room_one _ _ _ _ (hrm.le (by omega))
                case measure => simp [intOf]; omega
            | f nm us =>
              have hwf : ({ op := 10, x := x2 } : In).wf := wfI (i64_small (by decide) (by decide)) (i64_small (by omega) (by omega)) i64_0 i64_0 empty_size
              have hlen2 : n2 ≤ 100000 := by have := h2.code.len; have := hfit.code; omega
              have hlen5 : s2.code.length + 1 ≤ 100000 := by have := hrm.code; omega
              go_upto_region 17 with fail
              go_region_with (first
                  | (go_at_call 36; refine (remit_any s2 { op := 10, x := x2 } A2 n2 c2 B2 m2 d2 D2 p2 q2 _ (h2.below (Below.refl _ _).drew) hwf hlen2).mono ?_; rintro e w7 ⟨A7, n7, c7, rfl, hst7, hnA7, hb7⟩; (have hb7w : Below wr.heap.size wr w7 := Below.trans (Below.refl _ _).drew hb7); (have v07 := (hb7w.block b0 hlb0).trans hx0); (obtain ⟨e0, e1, e2, e3, h0, h1, h2', h3, v7l⟩ := open4 v07); (have k4 := (hb7w.cell (p := ⟨ba, oa + j, none⟩) hba2).trans hcella); simp only [stVal])
                  | fail)
              all_goals
                have hb7V := But.of (b := b0) hb7w
                go_wp2_with fail
                go_roundw
                case rel =>
                  refine ⟨j + 1, s2.emit _, A7, n7, c7, B2, m2, d2, D2, p2, _, by omega, by go_num, set4 v07 _ _ _ _, hst7.but4 (hoA.new hlb0 hnA7) hoB hoD _ _ _ _, ⟨hoA.new hlb0 hnA7, hoB, hoD⟩, fit_emit hfit hlen5 hwf, Lib.hid ?_, Lib.hid ?_, hbut.trans (hb7V.trans (but4 _ _ _ _ _ _)), hnA.trans (hnA7.lower (by simp; omega)) (Nat.le_refl _), hnB, hnD⟩
                  · have := hres.out; rw [Hd.out, Hd2.out, setsF_fun _ _ _ _ _ rfl] at this; exact this
                  · exact room_emit _ (hrm.le (by omega))
                case measure => simp [intOf]; omega
          · have hje : np = j := by omega
            subst hje
            have hl1U : b1 < U.heap.size := Nat.lt_of_lt_of_le hl13 hbut6s
            have x1 := (hbut.block b1 hl1U hne1).trans ((hbut6.block b1 hl13 hne1).trans z1)
            obtain ⟨y0, y1, y2, y3, f0, f1, f2, f3, bl0⟩ := open4 hx0
            obtain ⟨i0, i1, i2, i3, k0, k1, k2, k3, bl1⟩ := open4 x1
            have hdn : T.args.drop np = [] := List.drop_eq_nil_of_le (by have := Hlp.out; omega)
            have hfin := hres.out
            have hnil : ∀ xs, setsF s2 [] xs = s2 := fun xs => by cases xs <;> rfl
            rw [hdn, hnil] at hfin
            have Hfin := Lib.hid hfin
            clear hfin hnil
            have hbw : Below w.heap.size w wr := hb4.trans ((hbut6.trans hbut).below hw0 hb4.size)
            go_wp2
            refine bodyPost_ret (v := .tuple #[stVal A2 n2 c2 B2 m2 d2 D2 p2 q2 s2.next, .int .i64 nx]) (by simp [results, Try.results35, go_sem, stVal, *]) rfl ?_
            rw [Hbuild.out, ← Hfin.out]
            exact ⟨A2, n2, c2, B2, m2, d2, D2, p2, q2, rfl, h2.but4 (hoff1.1.new hl13 hnA) (hoff1.2.1.new hl13 hnB) (hoff1.2.2.new hl13 hnD) _ _ _ _, hnA.lower hb4.size, hnB.lower hb4.size, hnD.lower hb4.size, hbw.trans ((But.below (but4 _ _ _ _ _ _) hw1 hbw.size))⟩
end Go.Proofs.Ytdeaeiolehglaaa
