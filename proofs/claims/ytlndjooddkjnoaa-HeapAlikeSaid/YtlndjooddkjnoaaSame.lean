/- The walks that hold rows against each other, and look for a number in a row. -/
import Derived.Test.YtlndjooddkjnoaaRows
import Derived.Test.YtlndjooddkjnoaaB0
set_option linter.unusedVariables false
set_option linter.unusedSimpArgs false
namespace Go.Proofs.Ytlndjooddkjnoaa
open Go.RowKit

theorem eqC (a b : C) (w : World) : (binOp .eql 54 (.agg #[.int .i64 a.kind, .string a.name, .int .i64 a.n]) (.agg #[.int .i64 b.kind, .string b.name, .int .i64 b.n])).run Try.prog w = .ok (.bool (a.beq b)) w := by
  go_simp
  by_cases h1 : a.kind = b.kind <;> by_cases h2 : a.name.toList = b.name.toList <;> by_cases h3 : a.n = b.n <;> simp [C.beq, h1, h2, h3]
theorem neqC (a b : C) (w : World) : (binOp .neq 54 (.agg #[.int .i64 a.kind, .string a.name, .int .i64 a.n]) (.agg #[.int .i64 b.kind, .string b.name, .int .i64 b.n])).run Try.prog w = .ok (.bool (!a.beq b)) w := by
  go_simp
  by_cases h1 : a.kind = b.kind <;> by_cases h2 : a.name.toList = b.name.toList <;> by_cases h3 : a.n = b.n <;> simp [C.beq, h1, h2, h3]


set_option maxHeartbeats 400000 in
theorem rSame_any (A B : Option Addr) (n m cap cap' : Nat) (xs ys : List C) (w : World) (hx : IsC w A n cap xs) (hy : IsC w B m cap' ys) (hn : n ≤ 100000) (hm : m ≤ 100000) :
    Calls Try.prog 28 #[.slice A n cap, .slice B m cap'] w (RetD w (.bool (sameC xs ys))) := by
  by_cases hnm : n = m
  · subst hnm
    go_enter Try.func28, Try.ntmps28
    go_wp2
    go_loopw [5] (fun i wr => ∃ k : Nat, k ≤ n ∧ i = .int .i64 k ∧ Hid (sameC (xs.drop k) (ys.drop k) = sameC xs ys) ∧ ∃ d, wr = w.drewN d) (fun i _ => n - (intOf i).toNat)
    case atStart => exact ⟨0, Nat.zero_le _, rfl, rfl, 0, rfl⟩
    case round =>
      obtain ⟨k, hk, rfl, hres, d, rfl⟩ := hrel
      by_cases hlt : k < n
      · obtain ⟨x, hxk⟩ := hx.get hlt
        obtain ⟨y, hyk⟩ := hy.get hlt
        obtain ⟨b, off, rfl, hbb, hwf, h0, h1, h2⟩ := hx.at_ hxk
        obtain ⟨b', off', rfl, hbb', hwf', h0', h1', h2'⟩ := hy.at_ hyk
        have hd := drop_get hxk
        have hd' := drop_get hyk
        have Hd := Lib.hid hd
        have Hd' := Lib.hid hd'
        clear hxk hyk hd hd'
        have hp : (k : Int) < (n : Int) := by omega
        have hq := neqC x y
        go_wp2
        go_quiet (fail)
        go_wp2
        · rename_i h
          go_ret
          exact ⟨ret_bool (by have := hres.out; rw [Hd.out, Hd'.out, sameC] at this; rw [← this]; simp at h; simp [h]), _, World.drewN_drewN _ _ _⟩
        · rename_i h
          go_roundw
          case rel => exact ⟨k + 1, by omega, by go_num, by have := hres.out; rw [Hd.out, Hd'.out, sameC] at this; simp at h; exact Lib.hid (by simpa [h] using this), _, rfl⟩
          case measure => simp [intOf]; omega
      · go_wp2
        go_ret
        exact ⟨ret_bool (by have := hres.out; rw [drop_end hx.len hlt, drop_end hy.len hlt] at this; simpa [sameC] using this), d, rfl⟩
  · have hne : ((n : Int) == (m : Int)) = false := by simp; omega
    go_enter Try.func28, Try.ntmps28
    go_wp2
    go_ret
    exact ⟨ret_bool (sameC_len (by rw [hx.len, hy.len]; exact hnm)).symm, 0, rfl⟩



theorem inI_idx (ns : List Int) (x : Int) : inI ns x = decide (0 ≤ idxF (fun y => y == x) 0 ns) := by rw [idxF_any]; rfl

set_option maxHeartbeats 400000 in
theorem In_any (A : Option Addr) (n cap : Nat) (ns : List Int) (x : Int) (w : World) (h : IsI w A n cap ns) (hn : n ≤ 100000) :
    Calls Try.prog 34 #[.slice A n cap, .int .i64 x] w fun e w' => e = .returned (.bool (inI ns x)) ∧ w = w' := by
  go_enter Try.func34, Try.ntmps34
  go_wp2
  go_loop [5] (fun i => ∃ k : Nat, k ≤ n ∧ i = .int .i64 k ∧ Hid (idxF (fun y => y == x) k (ns.drop k) = idxF (fun y => y == x) 0 ns)) (fun i => n - (intOf i).toNat)
  case atStart => exact ⟨0, Nat.zero_le _, rfl, rfl⟩
  case round =>
    obtain ⟨k, hk, rfl, hres⟩ := hrel
    by_cases hlt : k < n
    · obtain ⟨y, hy⟩ := h.get hlt
      obtain ⟨b, off, rfl, hb, hwf, hc⟩ := h.at_ hy
      have hd := drop_get hy
      have Hd := Lib.hid hd
      clear hy hd
      cases ho : (y == x)
      all_goals
        have ho' : (x == y) = (y == x) := by rw [Bool.eq_iff_iff]; simp; exact ⟨Eq.symm, Eq.symm⟩
        rw [ho] at ho'
        have Ho := Lib.hid ho
        go_wp2
      · go_round
        case rel => exact ⟨k + 1, by omega, by go_num, by have := hres.out; rw [Hd.out, idxF, if_neg (by simp [Ho.out])] at this; exact this⟩
        case measure => simp [intOf]; omega
      · go_ret
        exact ⟨by have := hres.out; rw [Hd.out, idxF, if_pos (by simp [Ho.out])] at this; exact ret_bool (by rw [inI_idx, ← this]; simp), rfl⟩
    · go_wp2
      go_ret
      exact ⟨by have := hres.out; rw [drop_end h.len hlt] at this; exact ret_bool (by rw [inI_idx, ← this]; simp [idxF]), rfl⟩

set_option maxHeartbeats 400000 in
theorem Place_any (A : Option Addr) (n cap : Nat) (ns : List Int) (x : Int) (w : World) (h : IsI w A n cap ns) (hn : n ≤ 100000) :
    Calls Try.prog 90 #[.slice A n cap, .int .i64 x] w fun e w' => e = .returned (.int .i64 (placeI ns x)) ∧ w = w' := by
  go_enter Try.func90, Try.ntmps90
  go_wp2
  go_loop [5] (fun i => ∃ k : Nat, k ≤ n ∧ i = .int .i64 k ∧ Hid (idxF (fun y => y == x) k (ns.drop k) = idxF (fun y => y == x) 0 ns)) (fun i => n - (intOf i).toNat)
  case atStart => exact ⟨0, Nat.zero_le _, rfl, rfl⟩
  case round =>
    obtain ⟨k, hk, rfl, hres⟩ := hrel
    by_cases hlt : k < n
    · obtain ⟨y, hy⟩ := h.get hlt
      obtain ⟨b, off, rfl, hb, hwf, hc⟩ := h.at_ hy
      have hd := drop_get hy
      have Hd := Lib.hid hd
      clear hy hd
      cases ho : (y == x)
      all_goals
        have ho' : (x == y) = (y == x) := by rw [Bool.eq_iff_iff]; simp; exact ⟨Eq.symm, Eq.symm⟩
        rw [ho] at ho'
        have Ho := Lib.hid ho
        go_wp2
      · go_round
        case rel => exact ⟨k + 1, by omega, by go_num, by have := hres.out; rw [Hd.out, idxF, if_neg (by simp [Ho.out])] at this; exact this⟩
        case measure => simp [intOf]; omega
      · go_ret
        exact ⟨by have := hres.out; rw [Hd.out, idxF, if_pos (by simp [Ho.out])] at this; exact ret_int this, rfl⟩
    · go_wp2
      go_ret
      exact ⟨by have := hres.out; rw [drop_end h.len hlt] at this; exact ret_int (by rw [placeI, ← this]; rfl), rfl⟩

set_option maxHeartbeats 400000 in
theorem indexI_any (A : Option Addr) (n cap : Nat) (ns : List Int) (x : Int) (w : World) (h : IsI w A n cap ns) (hn : n ≤ 100000) :
    Calls Try.prog 81 #[.slice A n cap, .int .i64 x] w fun e w' => e = .returned (.int .i64 (placeI ns x)) ∧ w = w' := by
  go_enter Try.func81, Try.ntmps81
  go_wp2
  go_loop [8] (fun i => ∃ k : Nat, k ≤ n ∧ i = .int .i64 k ∧ Hid (idxF (fun y => y == x) k (ns.drop k) = idxF (fun y => y == x) 0 ns)) (fun i => n - (intOf i).toNat)
  case atStart => exact ⟨0, Nat.zero_le _, rfl, rfl⟩
  case round =>
    obtain ⟨k, hk, rfl, hres⟩ := hrel
    by_cases hlt : k < n
    · obtain ⟨y, hy⟩ := h.get hlt
      obtain ⟨b, off, rfl, hb, hwf, hc⟩ := h.at_ hy
      have hd := drop_get hy
      have Hd := Lib.hid hd
      clear hy hd
      cases ho : (y == x)
      all_goals
        have ho' : (x == y) = (y == x) := by rw [Bool.eq_iff_iff]; simp; exact ⟨Eq.symm, Eq.symm⟩
        rw [ho] at ho'
        have Ho := Lib.hid ho
        go_wp2
      · go_round
        case rel => exact ⟨k + 1, by omega, by go_num, by have := hres.out; rw [Hd.out, idxF, if_neg (by simp [Ho.out])] at this; exact this⟩
        case measure => simp [intOf]; omega
      · go_ret
        exact ⟨by have := hres.out; rw [Hd.out, idxF, if_pos (by simp [Ho.out])] at this; exact ret_int this, rfl⟩
    · go_wp2
      go_ret
      exact ⟨by have := hres.out; rw [drop_end h.len hlt] at this; exact ret_int (by rw [placeI, ← this]; rfl), rfl⟩

theorem containsI_any (A : Option Addr) (n cap : Nat) (ns : List Int) (x : Int) (w : World) (h : IsI w A n cap ns) (hn : n ≤ 100000) :
    Calls Try.prog 44 #[.slice A n cap, .int .i64 x] w fun e w' => e = .returned (.bool (inI ns x)) ∧ w = w' := by
  have hi := inI_idx ns x
  have Hi := Lib.hid hi
  clear hi
  go_enter Try.func44, Try.ntmps44
  go_wp2_with (go_at_call 81; go_must (refine (indexI_any A n cap ns x _ h hn).mono ?_); rintro e w1 ⟨rfl, rfl⟩)
  go_ret
  exact ⟨ret_bool Hi.out.symm, rfl⟩

end Go.Proofs.Ytlndjooddkjnoaa
