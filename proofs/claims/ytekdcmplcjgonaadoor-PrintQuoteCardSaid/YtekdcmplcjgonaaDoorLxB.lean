/- The walks of the reader's classes of bytes, and of rows of bytes of a class. -/
import Derived.Test.YtekdcmplcjgonaaDoorB4
import Derived.Test.YtekdcmplcjgonaaDoorB1
set_option linter.unusedVariables false
set_option linter.unusedSimpArgs false
namespace Go.Proofs.YtekdcmplcjgonaaDoor
open Go.RowKit

def blankB (c : UInt8) : Bool := c == 32 || (c == 9 || (c == 10 || c == 13))
def greatB (c : UInt8) : Bool := upB c || c == 95
def signs : List UInt8 := [43, 45, 42, 47, 92, 94, 60, 62, 61, 126, 58, 63, 64, 35, 38, 36, 46]
def signB (c : UInt8) : Bool := signs.any fun d => d == c
theorem eq_z {x : UInt8} {z : Int} (hz : (x.toNat : Int) = z) (k : UInt8) {n : Nat} (hn : k.toNat = n) : (x == k) = (z == (n : Int)) := by
  rw [Bool.eq_iff_iff, beq_iff_eq, beq_iff_eq, ← hz, ← UInt8.toNat_inj, hn]
  omega
theorem le_z {x : UInt8} {z : Int} (hz : (x.toNat : Int) = z) (a b : UInt8) {n m : Nat} (hn : a.toNat = n) (hm : b.toNat = m) : (decide (a ≤ x) && decide (x ≤ b)) = (decide ((n : Int) ≤ z) && decide (z ≤ (m : Int))) := by
  congr 1
  · exact decide_eq_decide.2 (by rw [UInt8.le_iff_toNat_le, hn]; omega)
  · exact decide_eq_decide.2 (by rw [UInt8.le_iff_toNat_le, hm]; omega)
theorem blank_z {x : UInt8} {z : Int} (hz : (x.toNat : Int) = z) : blankB x = (z == 32 || (z == 9 || (z == 10 || z == 13))) := by
  unfold blankB; rw [eq_z hz 32 rfl, eq_z hz 9 rfl, eq_z hz 10 rfl, eq_z hz 13 rfl]; rfl
theorem dig_z {x : UInt8} {z : Int} (hz : (x.toNat : Int) = z) : digB x = (decide ((48 : Int) ≤ z) && decide (z ≤ 57)) := by unfold digB; exact le_z hz 48 57 rfl rfl
theorem low_z {x : UInt8} {z : Int} (hz : (x.toNat : Int) = z) : lowB x = (decide ((97 : Int) ≤ z) && decide (z ≤ 122)) := by unfold lowB; exact le_z hz 97 122 rfl rfl
theorem great_z {x : UInt8} {z : Int} (hz : (x.toNat : Int) = z) : greatB x = ((decide ((65 : Int) ≤ z) && decide (z ≤ 90)) || z == 95) := by unfold greatB upB; rw [le_z hz 65 90 rfl rfl, eq_z hz 95 rfl]; rfl
theorem lxBlank_any (x : UInt8) (z : Int) (hz : (x.toNat : Int) = z) (w : World) : Calls Tryd.prog 70 #[.int .u8 z] w fun e w' => e = .returned (.bool (blankB x)) ∧ w = w' := by
  rw [blank_z hz]
  clear hz
  go_enter Tryd.func70, Tryd.ntmps70
  go_wp2
  all_goals go_ret
  all_goals exact ⟨ret_bool (by first | rfl | (rw [Bool.eq_iff_iff]; simp <;> omega) | (rw [Bool.eq_iff_iff]; done)), rfl⟩
theorem lxDigit_any (x : UInt8) (z : Int) (hz : (x.toNat : Int) = z) (w : World) : Calls Tryd.prog 75 #[.int .u8 z] w fun e w' => e = .returned (.bool (digB x)) ∧ w = w' := by
  rw [dig_z hz]
  clear hz
  go_enter Tryd.func75, Tryd.ntmps75
  go_wp2
  all_goals go_ret
  all_goals exact ⟨ret_bool (by first | rfl | (rw [Bool.eq_iff_iff]; simp <;> omega) | (rw [Bool.eq_iff_iff]; done)), rfl⟩
theorem lxSmall_any (x : UInt8) (z : Int) (hz : (x.toNat : Int) = z) (w : World) : Calls Tryd.prog 71 #[.int .u8 z] w fun e w' => e = .returned (.bool (lowB x)) ∧ w = w' := by
  rw [low_z hz]
  clear hz
  go_enter Tryd.func71, Tryd.ntmps71
  go_wp2
  all_goals go_ret
  all_goals exact ⟨ret_bool (by first | rfl | (rw [Bool.eq_iff_iff]; simp <;> omega) | (rw [Bool.eq_iff_iff]; done)), rfl⟩
theorem lxGreat_any (x : UInt8) (z : Int) (hz : (x.toNat : Int) = z) (w : World) : Calls Tryd.prog 74 #[.int .u8 z] w fun e w' => e = .returned (.bool (greatB x)) ∧ w = w' := by
  rw [great_z hz]
  clear hz
  go_enter Tryd.func74, Tryd.ntmps74
  go_wp2
  all_goals go_ret
  all_goals exact ⟨ret_bool (by first | rfl | (rw [Bool.eq_iff_iff]; simp <;> omega) | (rw [Bool.eq_iff_iff]; done)), rfl⟩
theorem let_parts (x : UInt8) : letB x = (lowB x || (greatB x || digB x)) := by
  show (lowB x || ((upB x || digB x) || x == 95)) = (lowB x || ((upB x || x == 95) || digB x))
  cases lowB x <;> cases upB x <;> cases digB x <;> cases x == 95 <;> rfl
theorem lxLetter_any (x : UInt8) (z : Int) (hz : (x.toNat : Int) = z) (w : World) : Calls Tryd.prog 89 #[.int .u8 z] w fun e w' => e = .returned (.bool (letB x)) ∧ w = w' := by
  rw [let_parts]
  have h1 := fun w => lxSmall_any x z hz w
  have h2 := fun w => lxGreat_any x z hz w
  have h3 := fun w => lxDigit_any x z hz w
  obtain ⟨p, hp⟩ : ∃ p, lowB x = p := ⟨_, rfl⟩
  obtain ⟨q, hq⟩ : ∃ p, greatB x = p := ⟨_, rfl⟩
  obtain ⟨r, hr⟩ : ∃ p, digB x = p := ⟨_, rfl⟩
  rw [hp] at h1 ⊢
  rw [hq] at h2 ⊢
  rw [hr] at h3 ⊢
  have H1 := Lib.hid h1
  have H2 := Lib.hid h2
  have H3 := Lib.hid h3
  clear h1 h2 h3 hp hq hr hz
  cases p
  · cases q
    all_goals
      go_enter Tryd.func89, Tryd.ntmps89
      go_wp2_with (first
        | (go_at_call 71; refine (H1.out _).mono ?_; rintro e w1 ⟨rfl, rfl⟩)
        | (go_at_call 74; refine (H2.out _).mono ?_; rintro e w1 ⟨rfl, rfl⟩)
        | (go_at_call 75; refine (H3.out _).mono ?_; rintro e w1 ⟨rfl, rfl⟩))
      go_ret
      exact ⟨rfl, rfl⟩
  · go_enter Tryd.func89, Tryd.ntmps89
    go_wp2_with (first
      | (go_at_call 71; refine (H1.out _).mono ?_; rintro e w1 ⟨rfl, rfl⟩))
    go_ret
    exact ⟨rfl, rfl⟩
set_option maxHeartbeats 1000000 in
theorem lxIn_any (s : ByteArray) (hs : s.size ≤ 1000) (x : UInt8) (z : Int) (hz : (x.toNat : Int) = z) (w : World) : Calls Tryd.prog 78 #[.string s, .int .u8 z] w fun e w' => e = .returned (.bool (s.data.toList.any fun d => d == x)) ∧ w = w' := by
  have Hz := Lib.hid hz
  obtain ⟨R, hR⟩ : ∃ R, (s.data.toList.any fun d => d == x) = R := ⟨_, rfl⟩
  have HR := Lib.hid hR
  rw [hR]
  clear hz hR
  go_enter Tryd.func78, Tryd.ntmps78
  go_wp2
  go_loop [5] (fun iv => ∃ k : Nat, k ≤ s.size ∧ iv = .int .i64 k ∧ Hid ((s.data.toList.drop k).any (fun d => d == x) = R)) (fun iv => s.size - (intOf iv).toNat)
  case atStart => exact ⟨0, Nat.zero_le _, rfl, HR⟩
  case round =>
    clear HR
    obtain ⟨k, hk, rfl, hres⟩ := hrel
    by_cases hlt : k < s.size
    · have hlt' : decide ((k : Int) < (s.size : Int)) = true := by simpa using hlt
      obtain ⟨y, hy⟩ : ∃ y, s[k] = y := ⟨_, rfl⟩
      have hr := hres.out
      rw [any_drop _ s k hlt, hy] at hr
      obtain ⟨v, hv⟩ : ∃ v : Int, (y.toNat : Int) = v := ⟨_, rfl⟩
      have hvi : (s[k].toNat : Int) = v := by rw [hy]; exact hv
      have heq : (y == x) = (v == z) := by rw [Bool.eq_iff_iff, beq_iff_eq, beq_iff_eq, ← hv, ← Hz.out, ← UInt8.toNat_inj]; omega
      rw [heq] at hr
      clear heq hv hy hres
      cases hq : v == z
      · rw [hq, Bool.false_or] at hr
        have Hr := Lib.hid hr
        clear hr
        go_wp2
        go_round
        case rel => exact ⟨k + 1, by omega, by go_num, Hr.out⟩
        case measure => simp [intOf]; omega
      · rw [hq, Bool.true_or] at hr
        have Hr := Lib.hid hr
        clear hr
        go_wp2
        go_ret
        exact ⟨ret_bool Hr.out, rfl⟩
    · have hr := hres.out
      rw [List.drop_of_length_le (by simp; omega), List.any_nil] at hr
      have Hr := Lib.hid hr
      have hlt' : decide (k < s.size) = false := decide_eq_false hlt
      clear hr hres
      go_wp2
      go_ret
      exact ⟨ret_bool Hr.out, rfl⟩
theorem lxSign_any (x : UInt8) (z : Int) (hz : (x.toNat : Int) = z) (w : World) : Calls Tryd.prog 79 #[.int .u8 z] w fun e w' => e = .returned (.bool (signB x)) ∧ w = w' := by
  have h := fun w => lxIn_any ⟨#[43, 45, 42, 47, 92, 94, 60, 62, 61, 126, 58, 63, 64, 35, 38, 36, 46]⟩ (by decide) x z hz w
  have e : ((⟨#[43, 45, 42, 47, 92, 94, 60, 62, 61, 126, 58, 63, 64, 35, 38, 36, 46]⟩ : ByteArray).data.toList.any fun d => d == x) = signB x := rfl
  rw [e] at h
  obtain ⟨q, hq⟩ : ∃ p, signB x = p := ⟨_, rfl⟩
  rw [hq] at h ⊢
  have H := Lib.hid h
  clear h e hq hz
  go_enter Tryd.func79, Tryd.ntmps79
  go_wp2_with (go_at_call 78; refine (H.out _).mono ?_; rintro e w1 ⟨rfl, rfl⟩)
  go_ret
  exact ⟨rfl, rfl⟩
end Go.Proofs.YtekdcmplcjgonaaDoor
