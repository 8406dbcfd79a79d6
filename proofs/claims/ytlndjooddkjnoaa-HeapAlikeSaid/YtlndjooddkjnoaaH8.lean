/- The walks of the code's shaped: its closures, ContainsFunc over slots. -/
import Derived.Laws.EntriesVeiled
import Derived.Test.YtlndjooddkjnoaaH7
set_option linter.unusedVariables false
set_option linter.unusedSimpArgs false
namespace Go.Proofs.Ytlndjooddkjnoaa
open Go.RowKit

theorem shaped2_any (x : C) (w : World) : Calls Try.prog 80 #[x.val] w (RetV w (.bool (x.kind == 4))) := by
  obtain ⟨kd, s, v⟩ := x
  unfold C.val
  cases hk : kd == 4
  all_goals
    have Hk := Lib.hid hk
    go_enter Try.func80, Try.ntmps80
    go_wp2
    go_ret
    exact ⟨rfl, (Below.refl _ _).alloc (Nat.le_refl _) _⟩
set_option maxHeartbeats 400000 in
theorem indexS_any (A : Option Addr) (n cap : Nat) (l : List C) (w : World) (h : IsC w A n cap l) (hn : n ≤ 100000) :
    Calls Try.prog 93 #[.slice A n cap, .func (.func 80) #[] #[]] w (RetV w (.int .i64 (idxF (fun x : C => x.kind == 4) 0 l))) := by
  go_enter Try.func93, Try.ntmps93
  go_wp2
  go_loopw [8] (fun i wr => ∃ k : Nat, k ≤ n ∧ i = .int .i64 k ∧ Hid (idxF (fun x : C => x.kind == 4) k (l.drop k) = idxF (fun x : C => x.kind == 4) 0 l) ∧ Below w.heap.size w wr) (fun i _ => n - (intOf i).toNat)
  case atStart => exact ⟨0, Nat.zero_le _, rfl, rfl, Below.refl _ _⟩
  case round =>
    obtain ⟨k, hk, rfl, hres, hb⟩ := hrel
    by_cases hlt : k < n
    · obtain ⟨x, hxk⟩ := h.get hlt
      obtain ⟨b, off, rfl, hbb, hwf, h0, h1, h2⟩ := h.at_ hxk
      have hd := drop_get hxk
      have Hd := Lib.hid hd
      obtain ⟨hc, hf⟩ := bcell hb
      have g0 := (hc b _ hbb).trans h0
      have g1 := (hc b _ hbb).trans h1
      have g2 := (hc b _ hbb).trans h2
      clear hxk hd h0 h1 h2 hc hf
      cases ho : x.kind == 4
      all_goals
        have hg := shaped2_any x wr
        rw [ho] at hg
        unfold C.val at hg
        have Ho := Lib.hid ho
        have Hg := Lib.hid hg
        clear ho hg
        go_wp2_with (first | (go_at_call 80; go_must (refine Hg.out.mono ?_); rintro e w1 ⟨rfl, hb1⟩))
      · go_roundw
        case rel => exact ⟨k + 1, by omega, by go_num, by have := hres.out; rw [Hd.out, idxF, if_neg (by simp [Ho.out])] at this; exact this, hb.trans (hb1.mono hb.size)⟩
        case measure => simp [intOf]; omega
      · go_ret
        exact ⟨ret_int (by have := hres.out; rw [Hd.out, idxF, if_pos (by simp [Ho.out])] at this; exact this), hb.trans (hb1.mono hb.size)⟩
    · go_wp2
      go_ret
      exact ⟨ret_int (by have := hres.out; rw [drop_end h.len hlt] at this; simpa [idxF] using this), hb⟩
theorem containsS_any (A : Option Addr) (n cap : Nat) (l : List C) (w : World) (h : IsC w A n cap l) (hn : n ≤ 100000) :
    Calls Try.prog 79 #[.slice A n cap, .func (.func 80) #[] #[]] w (RetV w (.bool (l.any fun x => x.kind == 4))) := by
  have hi := idxF_any (fun x : C => x.kind == 4) l 0
  have Hi := Lib.hid hi
  clear hi
  go_enter Try.func79, Try.ntmps79
  go_wp2_with (go_at_call 93; go_must (refine (indexS_any A n cap l _ h hn).mono ?_); rintro e w1 ⟨rfl, hb⟩)
  go_ret
  exact ⟨ret_bool Hi.out, hb⟩
set_option maxHeartbeats 400000 in
/-- is a Top there? -/
theorem shaped1_any (g : Nat) (A B : Option Addr) (n c m d : Nat) (r : Int) (l : List C) (x : Int) (w : World) (h : IsC w A n c l) (hn : n ≤ 100000) (hx : w.heap[g]? = some (.cells #[.slice A n c, .slice B m d, .int .i64 r] 25 (0, 0))) (hx2 : i64 x) :
    Calls Try.prog 77 #[.int .i64 x, .pointer (some ⟨g, 0, none⟩)] w (RetV w (.bool ((decide (0 ≤ x) && decide (x < (n : Int))) && (sAt l x.toNat).kind == 4))) := by
  have hl := h.len
  have Hl := Lib.hid hl
  have HC := Lib.hid h
  obtain ⟨y0, y1, y2, yl⟩ := open3 hx
  have Hx := Lib.hid hx
  have hwi := hwithin_any A B n c m d r x w hn
  clear hx hl
  cases hin : (decide (0 ≤ x) && decide (x < (n : Int)))
  · rw [hin] at hwi
    have Hwi := Lib.hid hwi
    clear hin hwi
    rw [Bool.false_and]
    go_enter Try.func77, Try.ntmps77
    go_wp2_with (first | (go_at_call 42; go_must (refine Hwi.out.mono ?_); rintro e w1 ⟨rfl, hb1⟩))
    go_ret
    exact ⟨rfl, hb1⟩
  · rw [hin] at hwi
    have Hwi := Lib.hid hwi
    simp at hin
    obtain ⟨q, rfl⟩ : ∃ q : Nat, x = q := ⟨x.toNat, by omega⟩
    have hqn : q < n := by omega
    obtain ⟨u, hu⟩ := HC.out.get hqn
    obtain ⟨b', off', rfl, hbb, hwu, e0, e1, e2⟩ := HC.out.at_ hu
    have hsu := sAt_get hu
    rw [Bool.true_and, Int.toNat_natCast, hsu]
    clear hu hsu hin e1 e2 hwi h
    generalize hu4 : (u.kind == 4) = R
    have Hu4 := Lib.hid hu4
    go_enter Try.func77, Try.ntmps77
    go_wp2_with (first | (go_at_call 42; go_must (refine Hwi.out.mono ?_); rintro e w1 ⟨rfl, hb1⟩; have w0 := (hb1.block g yl).trans Hx.out; obtain ⟨v0, v1, v2, vl⟩ := open3 w0; obtain ⟨hc, hf⟩ := bcell hb1; clear w0))
    go_ret
    exact ⟨rfl, hb1⟩
end Go.Proofs.Ytlndjooddkjnoaa
