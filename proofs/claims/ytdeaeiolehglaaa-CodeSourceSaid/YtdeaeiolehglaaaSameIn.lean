/- The walks that hold two codes against each other. -/
import Derived.Test.YtdeaeiolehglaaaRegs
set_option linter.unusedVariables false
set_option linter.unusedSimpArgs false
namespace Go.Proofs.Ytdeaeiolehglaaa
open Go.RowKit

theorem neqIn (a b : In) (w : World) : (binOp .neq 48 (.agg #[.int .i64 a.op, .int .i64 a.x, .int .i64 a.a, .string a.name, .int .i64 a.n, .bool a.neg]) (.agg #[.int .i64 b.op, .int .i64 b.x, .int .i64 b.a, .string b.name, .int .i64 b.n, .bool b.neg])).run Try.prog w = .ok (.bool (!a.beq b)) w := by
  go_simp
  by_cases h1 : a.op = b.op <;> by_cases h2 : a.x = b.x <;> by_cases h3 : a.a = b.a <;> by_cases h4 : a.name.toList = b.name.toList <;> by_cases h5 : a.n = b.n <;> by_cases h6 : a.neg = b.neg <;> simp [In.beq, h1, h2, h3, h4, h5, h6]

set_option maxHeartbeats 400000 in
theorem equalIn_any (A B : Option Addr) (n m cap cap' : Nat) (xs ys : List In) (w : World) (hx : IsK w A n cap xs) (hy : IsK w B m cap' ys) (hn : n ≤ 100000) (hm : m ≤ 100000) :
    Calls Try.prog 40 #[.slice A n cap, .slice B m cap'] w (RetD w (.bool (sameIn xs ys))) := by
  by_cases hnm : n = m
  · subst hnm
    go_enter Try.func40, Try.ntmps40
    go_wp2
    go_loopw [13] (fun i wr => ∃ k : Nat, k ≤ n ∧ i = .int .i64 k ∧ Hid (sameIn (xs.drop k) (ys.drop k) = sameIn xs ys) ∧ ∃ d, wr = w.drewN d) (fun i _ => n - (intOf i).toNat)
    case atStart => exact ⟨0, Nat.zero_le _, rfl, rfl, 0, rfl⟩
    case round =>
      obtain ⟨k, hk, rfl, hres, d, rfl⟩ := hrel
      by_cases hlt : k < n
      · obtain ⟨x, hxk⟩ := hx.get hlt
        obtain ⟨y, hyk⟩ := hy.get hlt
        obtain ⟨b, off, rfl, hbb, hwf, h0, h1, h2, h3, h4, h5⟩ := hx.at' hxk
        obtain ⟨b', off', rfl, hbb', hwf', h0', h1', h2', h3', h4', h5'⟩ := hy.at' hyk
        have hd := drop_get hxk
        have hd' := drop_get hyk
        have Hd := Lib.hid hd
        have Hd' := Lib.hid hd'
        clear hxk hyk hd hd'
        have hp : (k : Int) < (n : Int) := by omega
        have hq := neqIn x y
        go_wp2
        go_quiet (fail)
        go_wp2
        · rename_i h
          go_ret
          exact ⟨ret_bool (by have := hres.out; rw [Hd.out, Hd'.out, sameIn] at this; rw [← this]; simp at h; simp [h]), _, World.drewN_drewN _ _ _⟩
        · rename_i h
          go_roundw
          case rel => exact ⟨k + 1, by omega, by go_num, by have := hres.out; rw [Hd.out, Hd'.out, sameIn] at this; simp at h; exact Lib.hid (by simpa [h] using this), _, rfl⟩
          case measure => simp [intOf]; omega
      · go_wp2
        go_ret
        exact ⟨ret_bool (by have := hres.out; rw [drop_end hx.len hlt, drop_end hy.len hlt] at this; simpa [sameIn] using this), d, rfl⟩
  · have hne : ((n : Int) == (m : Int)) = false := by simp; omega
    go_enter Try.func40, Try.ntmps40
    go_wp2
    go_ret
    exact ⟨ret_bool (sameIn_len (by rw [hx.len, hy.len]; exact hnm)).symm, 0, rfl⟩

set_option maxHeartbeats 400000 in
theorem rSame10_any (A B : Option Addr) (n m cap cap' : Nat) (xs ys : List In) (w : World) (hx : IsK w A n cap xs) (hy : IsK w B m cap' ys) (hn : n ≤ 100000) (hm : m ≤ 100000) :
    Calls Try.prog 17 #[.slice A n cap, .slice B m cap'] w (RetD w (.bool (sameIn xs ys))) := by
  by_cases hnm : n = m
  · subst hnm
    go_enter Try.func17, Try.ntmps17
    go_wp2
    go_loopw [5] (fun i wr => ∃ k : Nat, k ≤ n ∧ i = .int .i64 k ∧ Hid (sameIn (xs.drop k) (ys.drop k) = sameIn xs ys) ∧ ∃ d, wr = w.drewN d) (fun i _ => n - (intOf i).toNat)
    case atStart => exact ⟨0, Nat.zero_le _, rfl, rfl, 0, rfl⟩
    case round =>
      obtain ⟨k, hk, rfl, hres, d, rfl⟩ := hrel
      by_cases hlt : k < n
      · obtain ⟨x, hxk⟩ := hx.get hlt
        obtain ⟨y, hyk⟩ := hy.get hlt
        obtain ⟨b, off, rfl, hbb, hwf, h0, h1, h2, h3, h4, h5⟩ := hx.at' hxk
        obtain ⟨b', off', rfl, hbb', hwf', h0', h1', h2', h3', h4', h5'⟩ := hy.at' hyk
        have hd := drop_get hxk
        have hd' := drop_get hyk
        have Hd := Lib.hid hd
        have Hd' := Lib.hid hd'
        clear hxk hyk hd hd'
        have hp : (k : Int) < (n : Int) := by omega
        have hq := neqIn x y
        go_wp2
        go_quiet (fail)
        go_wp2
        · rename_i h
          go_ret
          exact ⟨ret_bool (by have := hres.out; rw [Hd.out, Hd'.out, sameIn] at this; rw [← this]; simp at h; simp [h]), _, World.drewN_drewN _ _ _⟩
        · rename_i h
          go_roundw
          case rel => exact ⟨k + 1, by omega, by go_num, by have := hres.out; rw [Hd.out, Hd'.out, sameIn] at this; simp at h; exact Lib.hid (by simpa [h] using this), _, rfl⟩
          case measure => simp [intOf]; omega
      · go_wp2
        go_ret
        exact ⟨ret_bool (by have := hres.out; rw [drop_end hx.len hlt, drop_end hy.len hlt] at this; simpa [sameIn] using this), d, rfl⟩
  · have hne : ((n : Int) == (m : Int)) = false := by simp; omega
    go_enter Try.func17, Try.ntmps17
    go_wp2
    go_ret
    exact ⟨ret_bool (sameIn_len (by rw [hx.len, hy.len]; exact hnm)).symm, 0, rfl⟩
theorem eqIn (a b : In) (w : World) : (binOp .eql 48 (.agg #[.int .i64 a.op, .int .i64 a.x, .int .i64 a.a, .string a.name, .int .i64 a.n, .bool a.neg]) (.agg #[.int .i64 b.op, .int .i64 b.x, .int .i64 b.a, .string b.name, .int .i64 b.n, .bool b.neg])).run Try.prog w = .ok (.bool (a.beq b)) w := by
  go_simp
  by_cases h1 : a.op = b.op <;> by_cases h2 : a.x = b.x <;> by_cases h3 : a.a = b.a <;> by_cases h4 : a.name.toList = b.name.toList <;> by_cases h5 : a.n = b.n <;> by_cases h6 : a.neg = b.neg <;> simp [In.beq, h1, h2, h3, h4, h5, h6]
end Go.Proofs.Ytdeaeiolehglaaa
