/- The walks of rows of bytes of a class, and of what is passed between tokens. -/
import Derived.Test.YtekdcmplcjgonaaDoorLxB
set_option linter.unusedVariables false
set_option linter.unusedSimpArgs false
namespace Go.Proofs.YtekdcmplcjgonaaDoor
open Go.RowKit

theorem take_more {p : UInt8 → Bool} (s : ByteArray) (k : Nat) (h : k < s.size) : ((s.data.toList.drop k).takeWhile p).length = if p s[k] then ((s.data.toList.drop (k + 1)).takeWhile p).length + 1 else 0 := by
  rw [drop_cons s k h, List.takeWhile_cons]
  split <;> simp
/-- the place behind a row of a class -/
def endF (p : UInt8 → Bool) (s : ByteArray) (k : Nat) : Nat := k + ((s.data.toList.drop k).takeWhile p).length
theorem endF_step {p : UInt8 → Bool} {s : ByteArray} {k : Nat} (h : k < s.size) (hp : p s[k] = true) : endF p s k = endF p s (k + 1) := by unfold endF; rw [take_more s k h, if_pos hp]; omega
theorem endF_stop {p : UInt8 → Bool} {s : ByteArray} {k : Nat} (h : k < s.size) (hp : p s[k] = false) : endF p s k = k := by unfold endF; rw [take_more s k h, if_neg (by simp [hp])]; rfl
theorem endF_end {p : UInt8 → Bool} {s : ByteArray} : endF p s s.size = s.size := by unfold endF; rw [List.drop_of_length_le (by simp)]; rfl
set_option maxHeartbeats 1000000 in
theorem lxRowL_any (s : ByteArray) (hs : s.size ≤ 1000000) (at_ : Nat) (hat : at_ ≤ s.size) (w : World) : Calls Tryd.prog 73 #[.string s, .int .i64 at_, .int .i64 1] w fun e w' => e = .returned (.int .i64 (endF letB s at_)) ∧ w = w' := by
  obtain ⟨R, hR⟩ : ∃ R, endF letB s at_ = R := ⟨_, rfl⟩
  have HR := Lib.hid hR
  rw [hR]
  clear hR
  go_enter Tryd.func73, Tryd.ntmps73
  go_wp2
  go_loop [1, 7] (fun iv _ => ∃ k : Nat, k ≤ s.size ∧ iv = .int .i64 k ∧ Hid (endF letB s k = R)) (fun iv _ => s.size - (intOf iv).toNat)
  case atStart => exact ⟨at_, hat, rfl, HR⟩
  case round =>
    clear HR
    obtain ⟨k, hk, rfl, hres⟩ := hrel
    by_cases hlt : k < s.size
    · have hlt' : decide ((k : Int) < (s.size : Int)) = true := by simpa using hlt
      obtain ⟨y, hy⟩ : ∃ y, s[k] = y := ⟨_, rfl⟩
      obtain ⟨v, hv⟩ : ∃ v : Int, (y.toNat : Int) = v := ⟨_, rfl⟩
      have hvi : (s[k].toNat : Int) = v := by rw [hy]; exact hv
      have hcl := fun w => lxLetter_any y v hv w
      cases hp : letB y
      · have hr : k = R := by rw [← hres.out, endF_stop hlt (by rw [hy]; exact hp)]
        rw [hp] at hcl
        have Hr := Lib.hid hr
        have Hcl := Lib.hid hcl
        clear hr hcl hp hv hy hres
        go_wp2_with (go_at_call 89; refine (Hcl.out _).mono ?_; rintro e w1 ⟨rfl, rfl⟩)
        go_ret
        exact ⟨by rw [Hr.out]; rfl, rfl⟩
      · have hr : endF letB s (k + 1) = R := by rw [← hres.out, endF_step hlt (by rw [hy]; exact hp)]
        rw [hp] at hcl
        have Hr := Lib.hid hr
        have Hcl := Lib.hid hcl
        clear hr hcl hp hv hy hres
        go_wp2_with (go_at_call 89; refine (Hcl.out _).mono ?_; rintro e w1 ⟨rfl, rfl⟩)
        go_round
        case rel => exact ⟨k + 1, by omega, by go_num, Hr.out⟩
        case measure => simp [intOf]; omega
    · obtain rfl : k = s.size := by omega
      have hr : s.size = R := by rw [← hres.out, endF_end]
      have Hr := Lib.hid hr
      clear hr hres
      go_wp2
      go_ret
      exact ⟨by rw [Hr.out]; rfl, rfl⟩
set_option maxHeartbeats 1000000 in
theorem lxRowD_any (s : ByteArray) (hs : s.size ≤ 1000000) (at_ : Nat) (hat : at_ ≤ s.size) (w : World) : Calls Tryd.prog 73 #[.string s, .int .i64 at_, .int .i64 2] w fun e w' => e = .returned (.int .i64 (endF digB s at_)) ∧ w = w' := by
  obtain ⟨R, hR⟩ : ∃ R, endF digB s at_ = R := ⟨_, rfl⟩
  have HR := Lib.hid hR
  rw [hR]
  clear hR
  go_enter Tryd.func73, Tryd.ntmps73
  go_wp2
  go_loop [1, 7] (fun iv _ => ∃ k : Nat, k ≤ s.size ∧ iv = .int .i64 k ∧ Hid (endF digB s k = R)) (fun iv _ => s.size - (intOf iv).toNat)
  case atStart => exact ⟨at_, hat, rfl, HR⟩
  case round =>
    clear HR
    obtain ⟨k, hk, rfl, hres⟩ := hrel
    by_cases hlt : k < s.size
    · have hlt' : decide ((k : Int) < (s.size : Int)) = true := by simpa using hlt
      obtain ⟨y, hy⟩ : ∃ y, s[k] = y := ⟨_, rfl⟩
      obtain ⟨v, hv⟩ : ∃ v : Int, (y.toNat : Int) = v := ⟨_, rfl⟩
      have hvi : (s[k].toNat : Int) = v := by rw [hy]; exact hv
      have hcl := fun w => lxDigit_any y v hv w
      cases hp : digB y
      · have hr : k = R := by rw [← hres.out, endF_stop hlt (by rw [hy]; exact hp)]
        rw [hp] at hcl
        have Hr := Lib.hid hr
        have Hcl := Lib.hid hcl
        clear hr hcl hp hv hy hres
        go_wp2_with (go_at_call 75; refine (Hcl.out _).mono ?_; rintro e w1 ⟨rfl, rfl⟩)
        go_ret
        exact ⟨by rw [Hr.out]; rfl, rfl⟩
      · have hr : endF digB s (k + 1) = R := by rw [← hres.out, endF_step hlt (by rw [hy]; exact hp)]
        rw [hp] at hcl
        have Hr := Lib.hid hr
        have Hcl := Lib.hid hcl
        clear hr hcl hp hv hy hres
        go_wp2_with (go_at_call 75; refine (Hcl.out _).mono ?_; rintro e w1 ⟨rfl, rfl⟩)
        go_round
        case rel => exact ⟨k + 1, by omega, by go_num, Hr.out⟩
        case measure => simp [intOf]; omega
    · obtain rfl : k = s.size := by omega
      have hr : s.size = R := by rw [← hres.out, endF_end]
      have Hr := Lib.hid hr
      clear hr hres
      go_wp2
      go_ret
      exact ⟨by rw [Hr.out]; rfl, rfl⟩
set_option maxHeartbeats 1000000 in
theorem lxRowS_any (s : ByteArray) (hs : s.size ≤ 1000000) (at_ : Nat) (hat : at_ ≤ s.size) (w : World) : Calls Tryd.prog 73 #[.string s, .int .i64 at_, .int .i64 3] w fun e w' => e = .returned (.int .i64 (endF signB s at_)) ∧ w = w' := by
  obtain ⟨R, hR⟩ : ∃ R, endF signB s at_ = R := ⟨_, rfl⟩
  have HR := Lib.hid hR
  rw [hR]
  clear hR
  go_enter Tryd.func73, Tryd.ntmps73
  go_wp2
  go_loop [1, 7] (fun iv _ => ∃ k : Nat, k ≤ s.size ∧ iv = .int .i64 k ∧ Hid (endF signB s k = R)) (fun iv _ => s.size - (intOf iv).toNat)
  case atStart => exact ⟨at_, hat, rfl, HR⟩
  case round =>
    clear HR
    obtain ⟨k, hk, rfl, hres⟩ := hrel
    by_cases hlt : k < s.size
    · have hlt' : decide ((k : Int) < (s.size : Int)) = true := by simpa using hlt
      obtain ⟨y, hy⟩ : ∃ y, s[k] = y := ⟨_, rfl⟩
      obtain ⟨v, hv⟩ : ∃ v : Int, (y.toNat : Int) = v := ⟨_, rfl⟩
      have hvi : (s[k].toNat : Int) = v := by rw [hy]; exact hv
      have hcl := fun w => lxSign_any y v hv w
      cases hp : signB y
      · have hr : k = R := by rw [← hres.out, endF_stop hlt (by rw [hy]; exact hp)]
        rw [hp] at hcl
        have Hr := Lib.hid hr
        have Hcl := Lib.hid hcl
        clear hr hcl hp hv hy hres
        go_wp2_with (go_at_call 79; refine (Hcl.out _).mono ?_; rintro e w1 ⟨rfl, rfl⟩)
        go_ret
        exact ⟨by rw [Hr.out]; rfl, rfl⟩
      · have hr : endF signB s (k + 1) = R := by rw [← hres.out, endF_step hlt (by rw [hy]; exact hp)]
        rw [hp] at hcl
        have Hr := Lib.hid hr
        have Hcl := Lib.hid hcl
        clear hr hcl hp hv hy hres
        go_wp2_with (go_at_call 79; refine (Hcl.out _).mono ?_; rintro e w1 ⟨rfl, rfl⟩)
        go_round
        case rel => exact ⟨k + 1, by omega, by go_num, Hr.out⟩
        case measure => simp [intOf]; omega
    · obtain rfl : k = s.size := by omega
      have hr : s.size = R := by rw [← hres.out, endF_end]
      have Hr := Lib.hid hr
      clear hr hres
      go_wp2
      go_ret
      exact ⟨by rw [Hr.out]; rfl, rfl⟩
/-- what is passed from one place to another: blanks alone, and what stands there is none, nor a remark -/
structure PassP (s : ByteArray) (i j : Nat) : Prop where
  le : i ≤ j
  hi : j ≤ s.size
  gap : ∀ (k : Nat) (c : UInt8), i ≤ k → k < j → s.data.toList[k]? = some c → blankB c = true
  stop : ∀ c, s.data.toList[j]? = some c → blankB c = false ∧ c ≠ 37
theorem blank37 {c : UInt8} (h : blankB c = true) : c ≠ 37 := by rintro rfl; exact absurd h (by decide)
set_option maxHeartbeats 2000000 in
theorem lxPass_any (s : ByteArray) (hs : s.size ≤ 1000000) (i j : Nat) (hp : PassP s i j) (w : World) : Calls Tryd.prog 56 #[.string s, .int .i64 i] w fun e w' => e = .returned (.int .i64 j) ∧ w = w' := by
  have hj := hp.hi
  have hle := hp.le
  have Hp := Lib.hid hp
  clear hp
  go_enter Tryd.func56, Tryd.ntmps56
  go_wp2
  go_loop [1, 5] (fun iv rv => ∃ k : Nat, i ≤ k ∧ k ≤ j ∧ iv = .int .i64 k ∧ rv = .bool false) (fun iv _ => s.size - (intOf iv).toNat)
  case atStart => exact ⟨i, Nat.le_refl _, hle, rfl, rfl⟩
  case round =>
    obtain ⟨k, hk0, hk, rfl, rfl⟩ := hrel
    by_cases hlt : k < s.size
    · have hlt' : decide ((k : Int) < (s.size : Int)) = true := by simpa using hlt
      obtain ⟨y, hy⟩ : ∃ y, s[k] = y := ⟨_, rfl⟩
      have hg := str_get s hlt
      rw [hy] at hg
      obtain ⟨v, hv⟩ : ∃ v : Int, (y.toNat : Int) = v := ⟨_, rfl⟩
      have hvi : (s[k].toNat : Int) = v := by rw [hy]; exact hv
      have hcl := fun w => lxBlank_any y v hv w
      have e10 := eq_z hv 10 (n := 10) rfl
      have e37 := eq_z hv 37 (n := 37) rfl
      by_cases hkj : k < j
      · have hb := Hp.out.gap k y hk0 hkj hg
        have h37 : (v == 37) = false := by have := blank37 hb; rw [← Bool.not_eq_true, beq_iff_eq]; intro e; exact this (UInt8.toNat_inj.1 (by have : (37 : UInt8).toNat = 37 := rfl; omega))
        rw [hb] at hcl
        have Hcl := Lib.hid hcl
        clear hcl hb hg hy hv e10 e37
        cases h10 : v == 10
        all_goals
          go_wp2_with (go_at_call 70; refine (Hcl.out _).mono ?_; rintro e w1 ⟨rfl, rfl⟩)
          go_round
          case rel => exact ⟨k + 1, by omega, by omega, by go_num, rfl⟩
          case measure => simp [intOf]; omega
      · obtain rfl : k = j := by omega
        obtain ⟨hb, h37'⟩ := Hp.out.stop y hg
        have h37 : (v == 37) = false := by rw [← Bool.not_eq_true, beq_iff_eq]; intro e; exact h37' (UInt8.toNat_inj.1 (by have : (37 : UInt8).toNat = 37 := rfl; omega))
        have h10 : (v == 10) = false := by
          rw [← Bool.not_eq_true, beq_iff_eq]
          intro e
          have : y = 10 := UInt8.toNat_inj.1 (by have : (10 : UInt8).toNat = 10 := rfl; omega)
          rw [this] at hb
          exact absurd hb (by decide)
        rw [hb] at hcl
        have Hcl := Lib.hid hcl
        clear hcl hb hg hy hv e10 e37 h37'
        go_wp2_with (go_at_call 70; refine (Hcl.out _).mono ?_; rintro e w1 ⟨rfl, rfl⟩)
        go_ret
        exact ⟨rfl, rfl⟩
    · obtain rfl : k = s.size := by omega
      obtain rfl : j = s.size := by omega
      go_wp2
      go_ret
      exact ⟨rfl, rfl⟩
end Go.Proofs.YtekdcmplcjgonaaDoor
