/- The walks that ask whether a clause may be. -/
import Derived.Laws.EntriesVeiled
import Derived.Test.YtdeaeiolehglaaaLit
set_option linter.unusedVariables false
set_option linter.unusedSimpArgs false
namespace Go.Proofs.Ytdeaeiolehglaaa
open Go.RowKit

def atomB (t : List C) : Bool := rightB t && (match t with | c :: _ => c.kind == 3 | [] => false)
/-- a clause as it lies in memory -/
abbrev Raw := List C × List (Bool × List C)
def mayB (c : Raw) : Bool := atomB c.1 && (decide (c.2.length ≤ 8) && c.2.all fun l => atomB l.2)
theorem atomB_tree {t : List C} (h : atomB t = true) : ∃ T : Tm, T.ok = true ∧ T.flat = t ∧ T.size ≤ 200 ∧ T.c0.kind = 3 := by
  unfold atomB at h
  rw [Bool.and_eq_true] at h
  obtain ⟨T, h1, h2, h3⟩ := right_tree h.1
  refine ⟨T, h1, h2, h3, ?_⟩
  rw [← h2, flat_cons] at h
  simpa using h.2
/-- a clause, and how it lies in memory -/
structure IsCls (c : Cls) (r : Raw) : Prop where
  head : c.head.flat = r.1
  hok : c.head.ok = true ∧ c.head.size ≤ 200 ∧ c.head.c0.kind = 3
  body : c.body.map (fun l => (l.neg, l.t.flat)) = r.2
  bok : ∀ l ∈ c.body, l.t.ok = true ∧ l.t.size ≤ 200 ∧ l.t.c0.kind = 3
  len : c.body.length ≤ 8
theorem mayB_cls {r : Raw} (h : mayB r = true) : ∃ c, IsCls c r := by
  obtain ⟨t, b⟩ := r
  simp only [mayB, Bool.and_eq_true, decide_eq_true_eq, List.all_eq_true] at h
  obtain ⟨h1, h2, h3⟩ := h
  obtain ⟨T, t1, t2, t3, t4⟩ := atomB_tree h1
  have key : ∀ b : List (Bool × List C), (∀ l ∈ b, atomB l.2 = true) → ∃ ls : List Ltl, ls.map (fun l => (l.neg, l.t.flat)) = b ∧ ∀ l ∈ ls, l.t.ok = true ∧ l.t.size ≤ 200 ∧ l.t.c0.kind = 3 := by
    intro b
    induction b with
    | nil => intro _; exact ⟨[], rfl, by simp⟩
    | cons x b ih =>
      intro hb
      obtain ⟨ls, l1, l2⟩ := ih (fun l hl => hb l (by simp [hl]))
      obtain ⟨U, u1, u2, u3, u4⟩ := atomB_tree (hb x (by simp))
      refine ⟨⟨x.1, U⟩ :: ls, by simp [l1, u2], fun l hl => ?_⟩
      rcases List.mem_cons.1 hl with rfl | hl
      · exact ⟨u1, u3, u4⟩
      · exact l2 l hl
  obtain ⟨ls, l1, l2⟩ := key b h3
  exact ⟨⟨T, ls⟩, t2, ⟨t1, t3, t4⟩, l1, l2, by have := congrArg List.length l1; simp at this; simp; omega⟩

theorem tRight_all (A : Option Addr) (n cap : Nat) (t : List C) (w : World) (h : IsC w A n cap t) : Calls Try.prog 49 #[.slice A n cap] w (RetV w (.bool (rightB t))) := by
  by_cases hr : n ≤ 100000
  · exact tRight_any A n cap t w h hr
  · have Hl := Lib.hid h.len
    have h1 : (n : Int) < 1 ∨ 200 < (n : Int) := by omega
    go_enter Try.func49, Try.ntmps49
    go_wp2_with (first
      | (go_at_call 62; go_must (refine (in_no _ 1 200 _ h1).mono ?_); rintro e w1 ⟨rfl, rfl⟩))
    go_ret
    exact ⟨ret_bool (right_no t n Hl.out (by omega)).symm, Below.refl _ _⟩
theorem atom_any (A : Option Addr) (n cap : Nat) (t : List C) (w : World) (h : IsC w A n cap t) (hn : n ≤ 1000000000000) :
    Calls Try.prog 29 #[.slice A n cap] w (RetV w (.bool (atomB t))) := by
  cases hr : rightB t
  · have ha : atomB t = false := by simp [atomB, hr]
    have Ha := Lib.hid ha
    have hR := tRight_all A n cap t w h
    rw [hr] at hR
    have HR := Lib.hid hR
    clear ha hR hr
    go_enter Try.func29, Try.ntmps29
    go_wp2_with (first | (go_at_call 49; go_must (refine HR.out.mono ?_); rintro e w1 ⟨rfl, hb⟩))
    go_ret
    exact ⟨ret_bool Ha.out.symm, hb⟩
  · obtain ⟨hsk, hl1, _⟩ := right_skip hr
    match t, hl1 with
    | c :: cs, _ =>
      have hc0 : (c :: cs)[0]? = some c := rfl
      obtain ⟨b, off, rfl, hbb, _, h0, h1, h2⟩ := h.at_ hc0
      simp only [Nat.zero_mul, Nat.add_zero] at h0 h1 h2
      have hl := h.len
      have hn0 : (0 : Int) < (n : Int) := by simp at hl; omega
      have ha : atomB (c :: cs) = (c.kind == 3) := by simp [atomB, hr]
      have Ha := Lib.hid ha
      have hR := tRight_all _ n cap (c :: cs) w h
      rw [hr] at hR
      have HR := Lib.hid hR
      clear ha hR hr hl hc0 hsk
      go_enter Try.func29, Try.ntmps29
      go_wp2_with (first | (go_at_call 49; go_must (refine HR.out.mono ?_); rintro e w1 ⟨rfl, hb⟩; have q0 := ((bcell hb).1 b off hbb).trans h0; have hlt := Nat.lt_of_lt_of_le hbb hb.size))
      go_ret
      exact ⟨ret_bool Ha.out.symm, hb⟩
theorem rAtom_any (A : Option Addr) (n cap : Nat) (t : List C) (w : World) (h : IsC w A n cap t) (hn : n ≤ 100000) :
    Calls Try.prog 44 #[.slice A n cap] w (RetV w (.bool (atomB t))) := by
  cases hr : rightB t
  · have ha : atomB t = false := by simp [atomB, hr]
    have Ha := Lib.hid ha
    have hR := rRight_any A n cap t w h hn
    rw [hr] at hR
    have HR := Lib.hid hR
    clear ha hR hr
    go_enter Try.func44, Try.ntmps44
    go_wp2_with (first | (go_at_call 59; go_must (refine HR.out.mono ?_); rintro e w1 ⟨rfl, hb⟩))
    go_ret
    exact ⟨ret_bool Ha.out.symm, hb⟩
  · obtain ⟨hsk, hl1, _⟩ := right_skip hr
    match t, hl1 with
    | c :: cs, _ =>
      have hc0 : (c :: cs)[0]? = some c := rfl
      obtain ⟨b, off, rfl, hbb, _, h0, h1, h2⟩ := h.at_ hc0
      simp only [Nat.zero_mul, Nat.add_zero] at h0 h1 h2
      have hl := h.len
      have hn0 : (0 : Int) < (n : Int) := by simp at hl; omega
      have ha : atomB (c :: cs) = (c.kind == 3) := by simp [atomB, hr]
      have Ha := Lib.hid ha
      have hR := rRight_any _ n cap (c :: cs) w h hn
      rw [hr] at hR
      have HR := Lib.hid hR
      clear ha hR hr hl hc0 hsk
      go_enter Try.func44, Try.ntmps44
      go_wp2_with (first | (go_at_call 59; go_must (refine HR.out.mono ?_); rintro e w1 ⟨rfl, hb⟩; have q0 := ((bcell hb).1 b off hbb).trans h0; have hlt := Nat.lt_of_lt_of_le hbb hb.size))
      go_ret
      exact ⟨ret_bool Ha.out.symm, hb⟩
theorem odd_any (neg : Bool) (A : Option Addr) (n cap : Nat) (t : List C) (w : World) (h : IsC w A n cap t) (hn : n ≤ 1000000000000) :
    Calls Try.prog 28 #[.agg #[.bool neg, .slice A n cap]] w (RetV w (.bool (!atomB t))) := by
  have hal : Below w.heap.size w (w.alloc (.cells #[.bool neg, .slice A n cap] 55)) := (Below.refl _ _).alloc (Nat.le_refl _) _
  go_enter Try.func28, Try.ntmps28
  go_wp2_with (first | (go_at_call 29; go_must (refine (atom_any A n cap t _ (h.below hal) hn).mono ?_); rintro e w1 ⟨rfl, hb⟩))
  go_ret
  exact ⟨rfl, hal.trans (hb.mono hal.size)⟩

set_option maxHeartbeats 400000 in
theorem indexLit_any (A : Option Addr) (n cap : Nat) (l : List (Bool × List C)) (w : World) (h : IsLs w A n cap l) (hn : n ≤ 100000) (hs : ∀ x ∈ l, x.2.length ≤ 1000000000000) :
    Calls Try.prog 50 #[.slice A n cap, .func (.func 28) #[] #[]] w (RetV w (.int .i64 (idxF (fun x : Bool × List C => !atomB x.2) 0 l))) := by
  go_enter Try.func50, Try.ntmps50
  go_wp2
  go_loopw [8] (fun i wr => ∃ k : Nat, k ≤ n ∧ i = .int .i64 k ∧ Hid (idxF (fun x : Bool × List C => !atomB x.2) k (l.drop k) = idxF (fun x : Bool × List C => !atomB x.2) 0 l) ∧ Below w.heap.size w wr) (fun i _ => n - (intOf i).toNat)
  case atStart => exact ⟨0, Nat.zero_le _, rfl, rfl, Below.refl _ _⟩
  case round =>
    obtain ⟨k, hk, rfl, hres, hb⟩ := hrel
    by_cases hlt : k < n
    · obtain ⟨x, hxk⟩ := h.get hlt
      obtain ⟨b, off, v, rfl, hbb, _, ⟨A', n', c', rfl, hx⟩, hcells⟩ := h.at_ hxk
      have h0 := hcells 0 _ rfl
      have h1 := hcells 1 _ rfl
      have hd := drop_get hxk
      have hxs := hs x (List.mem_of_getElem? hxk)
      have hx' := hx.below hb
      have hxl := hx.len
      have Hd := Lib.hid hd
      obtain ⟨hc, hf⟩ := bcell hb
      have g0 := (hc b _ hbb).trans h0
      have g1 := (hc b _ hbb).trans h1
      simp only [Nat.add_zero] at g0
      have hcap := h.cap_le
      clear hxk hd hcells h0 h1 hc hf
      cases ho : atomB x.2
      all_goals
        have hg := odd_any x.1 A' n' c' x.2 wr hx' (by omega)
        rw [ho] at hg
        have Ho := Lib.hid ho
        have Hg := Lib.hid hg
        clear ho hg
        go_wp2_with (first | (go_at_call 28; go_must (refine Hg.out.mono ?_); rintro e w1 ⟨rfl, hb1⟩))
      · go_ret
        exact ⟨ret_int (by have := hres.out; rw [Hd.out, idxF, if_pos (by simp [Ho.out])] at this; exact this), hb.trans (hb1.mono hb.size)⟩
      · go_roundw
        case rel => exact ⟨k + 1, by omega, by go_num, by have := hres.out; rw [Hd.out, idxF, if_neg (by simp [Ho.out])] at this; exact this, hb.trans (hb1.mono hb.size)⟩
        case measure => simp [intOf]; omega
    · go_wp2
      go_ret
      exact ⟨ret_int (by have := hres.out; rw [drop_end h.len hlt] at this; simpa [idxF] using this), hb⟩
theorem containsLit_any (A : Option Addr) (n cap : Nat) (l : List (Bool × List C)) (w : World) (h : IsLs w A n cap l) (hn : n ≤ 100000) (hs : ∀ x ∈ l, x.2.length ≤ 1000000000000) :
    Calls Try.prog 30 #[.slice A n cap, .func (.func 28) #[] #[]] w (RetV w (.bool (!(l.all fun x => atomB x.2)))) := by
  have hi := idxF_any (fun x : Bool × List C => !atomB x.2) l 0
  have ha : (l.any fun x => !atomB x.2) = !(l.all fun x => atomB x.2) := by rw [← List.not_all_eq_any_not]
  rw [ha] at hi
  have Hi := Lib.hid hi
  clear hi ha
  go_enter Try.func30, Try.ntmps30
  go_wp2_with (go_at_call 50; go_must (refine (indexLit_any A n cap l _ h hn hs).mono ?_); rintro e w1 ⟨rfl, hb⟩)
  go_ret
  exact ⟨ret_bool Hi.out, hb⟩
end Go.Proofs.Ytdeaeiolehglaaa
