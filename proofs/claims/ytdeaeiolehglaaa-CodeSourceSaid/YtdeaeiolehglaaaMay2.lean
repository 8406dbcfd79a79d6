/- The walks of the document's May, and of Great. -/
import Derived.Test.YtdeaeiolehglaaaM13
import Derived.Test.YtdeaeiolehglaaaM0
set_option linter.unusedVariables false
set_option linter.unusedSimpArgs false
namespace Go.Proofs.Ytdeaeiolehglaaa
open Go.RowKit

theorem may_raw (t : List C) (b : List (Bool × List C)) : mayB (t, b) = (atomB t && (decide (b.length ≤ 8) && b.all fun l => atomB l.2)) := rfl
theorem rMay_any (A : Option Addr) (n cap : Nat) (t : List C) (B : Option Addr) (m d : Nat) (b : List (Bool × List C)) (w : World) (h : IsC w A n cap t) (hB : IsLs w B m d b) (hn : n ≤ 1000) (hm : m ≤ 100) (hs : ∀ x ∈ b, x.2.length ≤ 1000) :
    Calls Try.prog 23 #[.agg #[.slice A n cap, .slice B m d]] w (RetV w (.bool (mayB (t, b)))) := by
  have hal : Below w.heap.size w (w.alloc (.cells #[.slice A n cap, .slice B m d] 25)) := (Below.refl _ _).alloc (Nat.le_refl _) _
  have hml := hB.len
  have Hml := Lib.hid hml
  clear hml
  go_enter Try.func23, Try.ntmps23
  go_upto_region 1 with fail
  refine wp_world (Φ := fun X => Below w.heap.size w X ∧ X.heap[w.heap.size]? = some (.cells #[.slice A n cap, .slice B m d] 25 (0, 0))) ⟨hal, alloc_at rfl⟩ ?_
  rintro X ⟨hbX, x0⟩
  have hl0 := block_lt x0
  obtain ⟨g, hg⟩ : ∃ g, g = w.heap.size := ⟨_, rfl⟩
  rw [← hg] at x0 hl0 ⊢
  have hgw : w.heap.size ≤ g := by omega
  clear hg
  go_wp2
  go_loopw [3] (fun i wr => ∃ k : Nat, k ≤ m ∧ i = .int .i64 k ∧ Hid ((b.drop k).all (fun l => atomB l.2) = b.all (fun l => atomB l.2)) ∧ Below X.heap.size X wr) (fun i _ => m - (intOf i).toNat)
  case atStart => exact ⟨0, Nat.zero_le _, rfl, rfl, Below.refl _ _⟩
  case round =>
    obtain ⟨k, hk, rfl, hres, hb⟩ := hrel
    have y0 := (hb.cell (p := ⟨g, 0, none⟩) hl0).trans (cells_of x0 0)
    have y1 := (hb.cell (p := ⟨g, 1, none⟩) hl0).trans (cells_of x0 1)
    simp at y0 y1
    have hbw := hbX.trans (hb.mono hbX.size)
    have hlg : g < wr.heap.size := Nat.lt_of_lt_of_le hl0 hb.size
    by_cases hlt : k < m
    · obtain ⟨x, hxk⟩ := hB.get hlt
      obtain ⟨bb, off, v, rfl, hbb, _, ⟨A', n', c', rfl, hx⟩, hcells⟩ := hB.at_ hxk
      have h0 := hcells 0 _ rfl
      have h1 := hcells 1 _ rfl
      have hd := drop_get hxk
      have hxs := hs x (List.mem_of_getElem? hxk)
      have hx' := hx.below hbw
      have hxl := hx.len
      have Hd := Lib.hid hd
      obtain ⟨hc, hf⟩ := bcell hbw
      have g1 := (hc bb _ hbb).trans h1
      have hcap := hB.cap_le
      have hbb2 : bb < wr.heap.size := Nat.lt_of_lt_of_le hbb hbw.size
      clear hxk hd hcells h0 h1 hc hf
      cases ho : atomB x.2
      all_goals
        have hg := rAtom_any A' n' c' x.2 wr hx' (by omega)
        rw [ho] at hg
        have Ho := Lib.hid ho
        have Hg := Lib.hid hg
        clear ho hg
        go_wp2_with (first | (go_at_call 44; go_must (refine Hg.out.mono ?_); rintro e w1 ⟨rfl, hb1⟩))
      · go_ret
        have hall : b.all (fun l => atomB l.2) = false := by have := hres.out; rw [Hd.out, List.all_cons, Ho.out, Bool.false_and] at this; exact this.symm
        exact ⟨ret_bool (by rw [may_raw, hall]; simp), hbw.trans (hb1.mono hbw.size)⟩
      · go_roundw
        case rel => exact ⟨k + 1, by omega, by go_num, by have := hres.out; rw [Hd.out, List.all_cons, Ho.out, Bool.true_and] at this; exact this, hb.trans (hb1.mono hb.size)⟩
        case measure => simp [intOf]; omega
    · have hall : b.all (fun l => atomB l.2) = true := by have := hres.out; rw [drop_end Hml.out hlt] at this; simpa using this.symm
      have hg := rAtom_any A n cap t wr (h.below hbw) (by omega)
      have Hall := Lib.hid hall
      clear hall
      cases ho : atomB t
      all_goals
        rw [ho] at hg
        have Ho := Lib.hid ho
        have Hg := Lib.hid hg
        clear ho hg
      · go_wp2_with (first | (go_at_call 44; go_must (refine Hg.out.mono ?_); rintro e w1 ⟨rfl, hb1⟩))
        go_ret
        exact ⟨ret_bool (by rw [may_raw, Ho.out]; simp), hbw.trans (hb1.mono hbw.size)⟩
      · have hq : decide ((m : Int) ≤ 8) = decide (m ≤ 8) := decide_eq_decide.2 (by omega)
        go_wp2_with (first | (go_at_call 44; go_must (refine Hg.out.mono ?_); rintro e w1 ⟨rfl, hb1⟩; have q0 := (hb1.cell (p := ⟨g, 0, none⟩) hlg).trans y0; have q1 := (hb1.cell (p := ⟨g, 1, none⟩) hlg).trans y1; have hlg1 := Nat.lt_of_lt_of_le hlg hb1.size))
        go_ret
        exact ⟨ret_bool (by rw [may_raw, Ho.out, Hall.out, Hml.out]; simp [hq]), hbw.trans (hb1.mono hbw.size)⟩

/-- a row of clauses -/
def RCl : World → Raw → List Value → Prop := fun w r v => ∃ A n c B m d, v = [.slice A n c, .slice B m d] ∧ IsC w A n c r.1 ∧ IsLs w B m d r.2
theorem keepsCl : Keeps RCl := fun _ _ _ _ ⟨A, n, c, B, m, d, h1, h2, h3⟩ hb => ⟨A, n, c, B, m, d, h1, h2.below hb, IsG.below keepsLit h3 hb⟩
def bigLits (l : List (Bool × List C)) : Bool := l.any fun x => decide (300 < x.2.length)
def bigCl (r : Raw) : Bool := decide (300 < r.1.length) || (decide (10 < r.2.length) || bigLits r.2)
def greatC (l : List Raw) : Bool := decide (70 < l.length) || l.any bigCl
def bigIn (i : In) : Bool := decide (i.x < 0) || (decide (i.a < 0) || (decide (1000000 < i.x) || decide (1000000 < i.a)))
def greatI (l : List In) : Bool := decide (3000 < l.length) || l.any bigIn
set_option maxHeartbeats 2000000 in
theorem great10_any (A : Option Addr) (n cap : Nat) (l : List In) (w : World) (h : IsK w A n cap l) :
    Calls Try.prog 14 #[.slice A n cap] w (RetV w (.bool (greatI l))) := by
  have hl := h.len
  have Hl := Lib.hid hl
  have hmax := h.cap_le
  clear hl
  by_cases hbig : 3000 < n
  · have hb' : (3000 : Int) < (n : Int) := by omega
    go_enter Try.func14, Try.ntmps14
    go_wp2
    go_ret
    exact ⟨ret_bool (by simp [greatI, Hl.out, hbig]), Below.refl _ _⟩
  · have hb' : ¬ (3000 : Int) < (n : Int) := by omega
    go_enter Try.func14, Try.ntmps14
    go_wp2
    go_loopw [3] (fun i wr => ∃ k : Nat, k ≤ n ∧ i = .int .i64 k ∧ wr = w ∧ Hid ((l.drop k).any bigIn = l.any bigIn)) (fun i _ => n - (intOf i).toNat)
    case atStart => exact ⟨0, Nat.zero_le _, rfl, rfl, rfl⟩
    case round =>
      obtain ⟨k, hk, rfl, rfl, hres⟩ := hrel
      by_cases hlt : k < n
      · obtain ⟨x, hxk⟩ := h.get hlt
        obtain ⟨b, off, rfl, hbb, hw, c0, c1, c2, c3, c4, c5⟩ := h.at' hxk
        have hd := drop_get hxk
        have Hd := Lib.hid hd
        have hcap := hmax.1
        have hwx := hw.x
        have hwa := hw.a
        clear hxk hd
        by_cases q1 : x.x < 0
        · go_wp2
          go_ret
          exact ⟨ret_bool (by have := hres.out; rw [Hd.out, List.any_cons] at this; rw [greatI, ← this]; simp [bigIn, q1]), Below.refl _ _⟩
        · by_cases q2 : x.a < 0
          · go_wp2
            go_ret
            exact ⟨ret_bool (by have := hres.out; rw [Hd.out, List.any_cons] at this; rw [greatI, ← this]; simp [bigIn, q2]), Below.refl _ _⟩
          · by_cases q3 : 1000000 < x.x
            · go_wp2
              go_ret
              exact ⟨ret_bool (by have := hres.out; rw [Hd.out, List.any_cons] at this; rw [greatI, ← this]; simp [bigIn, q3]), Below.refl _ _⟩
            · by_cases q4 : 1000000 < x.a
              · go_wp2
                go_ret
                exact ⟨ret_bool (by have := hres.out; rw [Hd.out, List.any_cons] at this; rw [greatI, ← this]; simp [bigIn, q4]), Below.refl _ _⟩
              · go_wp2
                go_roundw
                case rel => exact ⟨k + 1, by omega, by go_num, by simp, by have := hres.out; rw [Hd.out, List.any_cons, show bigIn x = false by simp [bigIn, q1, q2, q3, q4], Bool.false_or] at this; exact this⟩
                case measure => simp [intOf]; omega
      · go_wp2
        go_ret
        exact ⟨ret_bool (by have := hres.out; rw [drop_end Hl.out hlt] at this; rw [greatI, ← this, Hl.out]; simp [hbig]), Below.refl _ _⟩
def RTrue (w : World) (v : Value) (e : Ending) (w' : World) : Prop := e = .returned v ∧ w' = w
theorem drop1 {α : Type} {l : List α} {k : Nat} {x : α} (f : α → Bool) {r : Bool} (hd : l.drop k = x :: l.drop (k + 1)) (h : (l.drop k).any f = r) : (f x || (l.drop (k + 1)).any f) = r := by rw [hd, List.any_cons] at h; exact h
set_option maxRecDepth 100000 in
set_option maxHeartbeats 2000000 in
theorem Great7_any (A : Option Addr) (n cap : Nat) (l : List Raw) (w : World) (h : IsG RCl 2 w A n cap l) :
    Calls Try.prog 13 #[.slice A n cap] w (RetV w (.bool (greatC l))) := by
  have hl := h.len
  have Hl := Lib.hid hl
  have hmax := h.cap_le
  clear hl
  by_cases hbig : 70 < n
  · have hb' : (70 : Int) < (n : Int) := by omega
    go_enter Try.func13, Try.ntmps13
    go_wp2
    go_ret
    exact ⟨ret_bool (by simp [greatC, Hl.out, hbig]), Below.refl _ _⟩
  · have hb' : ¬ (70 : Int) < (n : Int) := by omega
    go_enter Try.func13, Try.ntmps13
    go_wp2
    go_loopw [3] (fun i wr => ∃ k : Nat, k ≤ n ∧ i = .int .i64 k ∧ wr = w ∧ Hid ((l.drop k).any bigCl = l.any bigCl)) (fun i _ => n - (intOf i).toNat)
    case atStart => exact ⟨0, Nat.zero_le _, rfl, rfl, rfl⟩
    case round =>
      obtain ⟨k, hk, rfl, rfl, hres⟩ := hrel
      by_cases hlt : k < n
      · obtain ⟨x, hxk⟩ := h.get hlt
        obtain ⟨b, off, v, rfl, hbb, _, ⟨A1, n1, c1, B1, m1, d1, rfl, hx1, hx2⟩, hcells⟩ := h.at_ hxk
        have h0 := hcells 0 _ rfl
        have h1 := hcells 1 _ rfl
        simp only [Nat.add_zero] at h0
        have hstep := drop1 bigCl (drop_get hxk) hres.out
        have hfin : bigCl x = true → l.any bigCl = true := fun hx => by rw [← hstep, hx]; rfl
        have hnot : bigCl x = false → (l.drop (k + 1)).any bigCl = l.any bigCl := fun hx => by rw [hx, Bool.false_or] at hstep; exact hstep
        have Hfin := Lib.hid hfin
        have Hnot := Lib.hid hnot
        have hl1 := hx1.len
        have hl2 := hx2.len
        have hcap := hmax.1
        have hcap2 := hx2.cap_le
        have Hl1 := Lib.hid hl1
        have Hl2 := Lib.hid hl2
        clear hxk hstep hfin hnot hres hcells hl1 hl2
        by_cases q1 : 300 < n1
        · have q1' : (300 : Int) < (n1 : Int) := by omega
          go_wp2
          go_ret
          exact ⟨ret_bool (by rw [greatC, Hfin.out (by simp [bigCl, Hl1.out, q1])]; simp), Below.refl _ _⟩
        · have q1' : ¬ (300 : Int) < (n1 : Int) := by omega
          by_cases q2 : 10 < m1
          · have q2' : (10 : Int) < (m1 : Int) := by omega
            go_wp2
            go_ret
            exact ⟨ret_bool (by rw [greatC, Hfin.out (by simp [bigCl, Hl2.out, q2])]; simp), Below.refl _ _⟩
          · have q2' : ¬ (10 : Int) < (m1 : Int) := by omega
            have hbc : bigCl x = bigLits x.2 := by simp [bigCl, Hl1.out, Hl2.out, q1, q2]
            have Hbc := Lib.hid hbc
            clear hbc
            go_wp2
            go_loopw [4] (fun i wr2 => ∃ k2 : Nat, k2 ≤ m1 ∧ i = .int .i64 k2 ∧ wr2 = wr ∧ Hid ((x.2.drop k2).any (fun x => decide (300 < x.2.length)) = bigLits x.2)) (fun i _ => m1 - (intOf i).toNat)
            case atStart => exact ⟨0, Nat.zero_le _, rfl, rfl, rfl⟩
            case round =>
              obtain ⟨k2, hk2, rfl, rfl, hres2⟩ := hrel
              by_cases hlt2 : k2 < m1
              · obtain ⟨y, hyk⟩ := hx2.get hlt2
                obtain ⟨b2, off2, v2, rfl, hbb2, _, ⟨A3, n3, c3, rfl, hx3⟩, hcells2⟩ := hx2.at_ hyk
                have j1 := hcells2 1 _ rfl
                have hstep2 := drop1 (fun x : Bool × List C => decide (300 < x.2.length)) (drop_get hyk) hres2.out
                have hl3 := hx3.len
                have Hl3 := Lib.hid hl3
                have Hstep2 := Lib.hid hstep2
                clear hyk hstep2 hl3 hres2 hcells2
                by_cases q3 : 300 < n3
                · have q3' : (300 : Int) < (n3 : Int) := by omega
                  go_wp2
                  go_ret
                  exact ⟨ret_bool (by rw [greatC, Hfin.out (by rw [Hbc.out, ← Hstep2.out]; simp [Hl3.out, q3])]; simp), Below.refl _ _⟩
                · have q3' : ¬ (300 : Int) < (n3 : Int) := by omega
                  go_wp2
                  go_roundw
                  case rel => exact ⟨k2 + 1, by omega, by go_num, by simp, by have := Hstep2.out; simp only [Hl3.out, q3, decide_false, Bool.false_or] at this; exact this⟩
                  case measure => simp [intOf]; omega
              · have hend := hres2.out
                rw [drop_end Hl2.out hlt2] at hend
                have Hend := Lib.hid hend
                clear hend hres2
                go_wp2
                go_roundw
                case rel => exact ⟨k + 1, by omega, by go_num, by simp, Hnot.out (by rw [Hbc.out, ← Hend.out]; rfl)⟩
                case measure => simp [intOf]; omega
      · go_wp2
        go_ret
        exact ⟨ret_bool (by have := hres.out; rw [drop_end Hl.out hlt] at this; rw [greatC, ← this, Hl.out]; simp [hbig]), Below.refl _ _⟩
end Go.Proofs.Ytdeaeiolehglaaa
