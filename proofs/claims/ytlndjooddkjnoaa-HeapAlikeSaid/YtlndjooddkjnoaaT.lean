/- The walks over the cells of terms: which cells may be. -/
import Derived.Test.YtlndjooddkjnoaaRows
import Derived.Test.YtlndjooddkjnoaaB0
set_option linter.unusedVariables false
set_option linter.unusedSimpArgs false
namespace Go.Proofs.Ytlndjooddkjnoaa
open Go.RowKit

theorem in_any (n lo hi : Int) (w : World) : Calls Try.prog 91 #[.int .i64 n, .int .i64 lo, .int .i64 hi] w fun e w' => e = .returned (.bool (decide (lo ≤ n) && decide (n ≤ hi))) ∧ w = w' := by
  by_cases h1 : lo ≤ n
  · go_enter Try.func91, Try.ntmps91
    go_wp2
    go_ret
    exact ⟨by simp [h1], rfl⟩
  · go_enter Try.func91, Try.ntmps91
    go_wp2
    go_ret
    exact ⟨ret_bool (by simp; intro _; omega), rfl⟩
theorem in_yes (n lo hi : Int) (w : World) (h1 : lo ≤ n) (h2 : n ≤ hi) : Calls Try.prog 91 #[.int .i64 n, .int .i64 lo, .int .i64 hi] w fun e w' => e = .returned (.bool true) ∧ w = w' :=
  (in_any n lo hi w).mono fun e w' ⟨h, h'⟩ => ⟨by rw [h]; simp [h1, h2], h'⟩
theorem in_no (n lo hi : Int) (w : World) (h : n < lo ∨ hi < n) : Calls Try.prog 91 #[.int .i64 n, .int .i64 lo, .int .i64 hi] w fun e w' => e = .returned (.bool false) ∧ w = w' :=
  (in_any n lo hi w).mono fun e w' ⟨h1, h'⟩ => ⟨by rw [h1]; exact ret_bool (by simp; intro _; omega), h'⟩

set_option maxHeartbeats 400000 in
theorem name_any (s : ByteArray) (w : World) (hs : s.size ≤ 9223372036854775807) : Calls Try.prog 94 #[.string s] w fun e w' => e = .returned (.bool (okName s)) ∧ w = w' := by
  go_enter Try.func94, Try.ntmps94
  go_wp2
  go_loop [3] (fun i => ∃ k : Nat, k ≤ s.size ∧ i = .int .i64 k ∧ Hid ((s.data.toList.drop k).any oddB = s.data.toList.any oddB)) (fun i => s.size - (intOf i).toNat)
  case atStart => exact ⟨0, Nat.zero_le _, rfl, rfl⟩
  case round =>
    obtain ⟨k, hk, rfl, hres⟩ := hrel
    by_cases hlt : k < s.size
    · have hodd : (s[k].toNat : Int) < 32 ∨ 126 < (s[k].toNat : Int) ∨ (s[k].toNat : Int) = 39 → okName s = false := fun h => by
        have := hres.out
        rw [any_drop oddB s k hlt, oddB_yes h] at this
        simp [okName, ← this]
      have hnext : 32 ≤ (s[k].toNat : Int) → (s[k].toNat : Int) ≤ 126 → (s[k].toNat : Int) ≠ 39 → (s.data.toList.drop (k + 1)).any oddB = s.data.toList.any oddB := fun h1 h2 h3 => by
        have := hres.out
        rw [any_drop oddB s k hlt, oddB_no h1 h2 h3] at this
        simpa using this
      have Hodd := Lib.hid hodd
      have Hnext := Lib.hid hnext
      clear hodd hnext hres
      go_wp2
      · go_ret
        rename_i h _
        exact ⟨ret_bool (Eq.symm (Hodd.out (by simp at h; omega))), rfl⟩
      · rename_i h
        obtain ⟨_, h⟩ := h
        go_round
        case rel => exact ⟨k + 1, by omega, by go_num, Hnext.out (by omega) (by omega) (by simpa using h)⟩
        case measure => simp [intOf]; omega
      · go_ret
        exact ⟨ret_bool (Eq.symm (Hodd.out (by omega))), rfl⟩
      · go_ret
        exact ⟨ret_bool (Eq.symm (Hodd.out (by omega))), rfl⟩
    · have hall : s.data.toList.any oddB = false := by
        have := hres.out
        rw [List.drop_of_length_le (by simp; omega)] at this
        simpa using this.symm
      have Hall := Lib.hid hall
      clear hall hres
      go_wp2
      all_goals go_ret
      all_goals exact ⟨ret_bool (by rw [Bool.eq_iff_iff]; simp [okName, Hall.out]; omega), rfl⟩

set_option maxHeartbeats 400000 in
theorem right1_any (r : Int) (w : World) : Calls Try.prog 98 #[.int .i32 r] w fun e w' => e = .returned (.bool (oddR r)) ∧ w = w' := by
  go_enter Try.func98, Try.ntmps98
  go_wp2
  all_goals go_ret
  all_goals exact ⟨ret_bool (by rw [Bool.eq_iff_iff]; simp [oddR]; omega), rfl⟩

set_option maxHeartbeats 400000 in
theorem indexR_any (A : Option Addr) (n cap : Nat) (rs : List Int) (w : World) (h : IsR w A n cap rs) (hn : n ≤ 100000) :
    Calls Try.prog 100 #[.slice A n cap, .func (.func 98) #[] #[]] w fun e w' => e = .returned (.int .i64 (idxF oddR 0 rs)) ∧ w = w' := by
  go_enter Try.func100, Try.ntmps100
  go_wp2
  go_loop [8] (fun i => ∃ k : Nat, k ≤ n ∧ i = .int .i64 k ∧ Hid (idxF oddR k (rs.drop k) = idxF oddR 0 rs)) (fun i => n - (intOf i).toNat)
  case atStart => exact ⟨0, Nat.zero_le _, rfl, rfl⟩
  case round =>
    obtain ⟨k, hk, rfl, hres⟩ := hrel
    by_cases hlt : k < n
    · obtain ⟨x, hx⟩ := h.get hlt
      obtain ⟨b, off, rfl, hb, hwf, hc⟩ := h.at_ hx
      have hd : rs.drop k = x :: rs.drop (k + 1) := by
        obtain ⟨hl, he⟩ := List.getElem?_eq_some_iff.1 hx
        rw [List.drop_eq_getElem_cons hl, he]
      have Hd := Lib.hid hd
      clear hx hd
      cases ho : oddR x
      all_goals
        have Ho := Lib.hid ho
        go_wp2_with (go_at_call 98; go_must (refine (right1_any x _).mono ?_); rintro e w1 ⟨rfl, rfl⟩)
      · go_round
        case rel => exact ⟨k + 1, by omega, by go_num, by have := hres.out; rw [Hd.out, idxF, if_neg (by simp [Ho.out])] at this; exact this⟩
        case measure => simp [intOf]; omega
      · go_ret
        exact ⟨ret_int (by have := hres.out; rw [Hd.out, idxF, if_pos (by simp [Ho.out])] at this; exact this), rfl⟩
    · go_wp2
      go_ret
      exact ⟨ret_int (by have := hres.out; rw [List.drop_of_length_le (by have := h.len; omega)] at this; simpa [idxF] using this), rfl⟩

theorem containsR_any (A : Option Addr) (n cap : Nat) (rs : List Int) (w : World) (h : IsR w A n cap rs) (hn : n ≤ 100000) :
    Calls Try.prog 99 #[.slice A n cap, .func (.func 98) #[] #[]] w fun e w' => e = .returned (.bool (rs.any oddR)) ∧ w = w' := by
  have hi := idxF_any oddR rs 0
  have Hi := Lib.hid hi
  clear hi
  go_enter Try.func99, Try.ntmps99
  go_wp2_with (go_at_call 100; go_must (refine (indexR_any A n cap rs _ h hn).mono ?_); rintro e w1 ⟨rfl, rfl⟩)
  go_ret
  exact ⟨ret_bool Hi.out, rfl⟩

set_option maxHeartbeats 400000 in
theorem right_any (c : C) (w : World) (h : c.wf) : Calls Try.prog 97 #[c.val] w (RetV w (.bool c.ok)) := by
  obtain ⟨k, s, n⟩ := c
  obtain ⟨hk, hn, hs⟩ := h
  unfold maxLen at hs
  dsimp only [C.val] at *
  by_cases k1 : k = 1
  · subst k1
    by_cases h2 : 0 ≤ n ∧ n ≤ 999
    · obtain ⟨h3, h4⟩ := h2
      go_enter Try.func97, Try.ntmps97
      go_wp2_with (first | (go_at_call 91; go_must (refine (in_yes _ _ _ _ h3 h4).mono ?_); rintro e w1 ⟨rfl, rfl⟩))
      all_goals go_ret
      all_goals exact ⟨ret_bool (by simp [C.ok, *]), (by repeat (first | assumption | exact Below.refl _ _ | refine Below.drew ?_ | refine below_drewN ?_ _ | refine Below.alloc ?_ ?_ _ | refine Below.setCell ?_ ?_ _ | (apply Below.size; assumption) | (simp; done) | (simp; omega) | (have hz := hb.size; simp; omega) | (have hz := hb.size; omega) | omega))⟩
    · have h3 : n < 0 ∨ 999 < n := by omega
      go_enter Try.func97, Try.ntmps97
      go_wp2_with (first | (go_at_call 91; go_must (refine (in_no _ _ _ _ h3).mono ?_); rintro e w1 ⟨rfl, rfl⟩))
      all_goals go_ret
      all_goals exact ⟨ret_bool (by simp [C.ok, *]; try omega), (by repeat (first | assumption | exact Below.refl _ _ | refine Below.drew ?_ | refine below_drewN ?_ _ | refine Below.alloc ?_ ?_ _ | refine Below.setCell ?_ ?_ _ | (apply Below.size; assumption) | (simp; done) | (simp; omega) | (have hz := hb.size; simp; omega) | (have hz := hb.size; omega) | omega))⟩
  · by_cases k2 : k = 2
    · subst k2
      by_cases h2 : -2147483647 ≤ n ∧ n ≤ 2147483647
      · obtain ⟨h3, h4⟩ := h2
        go_enter Try.func97, Try.ntmps97
        go_wp2_with (first | (go_at_call 91; go_must (refine (in_yes _ _ _ _ h3 h4).mono ?_); rintro e w1 ⟨rfl, rfl⟩))
        all_goals go_ret
        all_goals exact ⟨ret_bool (by simp [C.ok, *]), (by repeat (first | assumption | exact Below.refl _ _ | refine Below.drew ?_ | refine below_drewN ?_ _ | refine Below.alloc ?_ ?_ _ | refine Below.setCell ?_ ?_ _ | (apply Below.size; assumption) | (simp; done) | (simp; omega) | (have hz := hb.size; simp; omega) | (have hz := hb.size; omega) | omega))⟩
      · have h3 : n < -2147483647 ∨ 2147483647 < n := by omega
        go_enter Try.func97, Try.ntmps97
        go_wp2_with (first | (go_at_call 91; go_must (refine (in_no _ _ _ _ h3).mono ?_); rintro e w1 ⟨rfl, rfl⟩))
        all_goals go_ret
        all_goals exact ⟨ret_bool (by simp [C.ok, *]; try omega), (by repeat (first | assumption | exact Below.refl _ _ | refine Below.drew ?_ | refine below_drewN ?_ _ | refine Below.alloc ?_ ?_ _ | refine Below.setCell ?_ ?_ _ | (apply Below.size; assumption) | (simp; done) | (simp; omega) | (have hz := hb.size; simp; omega) | (have hz := hb.size; omega) | omega))⟩
    · by_cases k3 : k = 3
      · subst k3
        by_cases h2 : 0 ≤ n ∧ n ≤ 6
        · obtain ⟨h3, h4⟩ := h2
          by_cases h5 : 1 ≤ s.size ∧ s.size ≤ 12
          · have h6 : (1 : Int) ≤ (s.size : Int) := by omega
            have h7 : (s.size : Int) ≤ 12 := by omega
            go_enter Try.func97, Try.ntmps97
            go_wp2_with (first
              | (go_at_call 91; (first | (with_reducible refine (in_yes n 0 6 _ h3 h4).mono ?_) | (with_reducible refine (in_yes _ 1 12 _ h6 h7).mono ?_)); rintro e w1 ⟨rfl, rfl⟩)
              | (refine wpList_runes rfl (.tmp 43) 9 121 21 rfl Try.underlying9 Try.underlying121 Try.underlying21 s rfl (by omega) ?_; intro A m cap w1 rs hb hr hm hodd; have Hodd := Lib.hid hodd; clear hodd; replace hb := Below.trans (a := w) (B := w.heap.size) (by repeat (first | assumption | exact Below.refl _ _ | refine Below.drew ?_ | refine below_drewN ?_ _ | refine Below.alloc ?_ ?_ _ | refine Below.setCell ?_ ?_ _ | (apply Below.size; assumption) | (simp; done) | (simp; omega) | (have hz := hb.size; simp; omega) | (have hz := hb.size; omega) | omega)) (hb.mono (by first | exact Nat.le_refl _ | (simp; done) | (simp; omega))))
              | (go_at_call 99; go_must (refine (containsR_any A m cap rs _ hr hm).mono ?_); rintro e w1 ⟨rfl, rfl⟩))
            go_ret
            exact ⟨ret_bool (by simp [C.ok, okName, Hodd.out, h5, h3, h4]), hb⟩
          · have h6 : (s.size : Int) < 1 ∨ 12 < (s.size : Int) := by omega
            go_enter Try.func97, Try.ntmps97
            go_wp2_with (first
              | (go_at_call 91; (first | (with_reducible refine (in_yes n 0 6 _ h3 h4).mono ?_) | (with_reducible refine (in_no _ 1 12 _ h6).mono ?_)); rintro e w1 ⟨rfl, rfl⟩))
            go_ret
            exact ⟨ret_bool (by simp [C.ok, okName, h3, h4]; omega), (by repeat (first | assumption | exact Below.refl _ _ | refine Below.drew ?_ | refine below_drewN ?_ _ | refine Below.alloc ?_ ?_ _ | refine Below.setCell ?_ ?_ _ | (apply Below.size; assumption) | (simp; done) | (simp; omega) | (have hz := hb.size; simp; omega) | (have hz := hb.size; omega) | omega))⟩
        · have h3 : n < 0 ∨ 6 < n := by omega
          go_enter Try.func97, Try.ntmps97
          go_wp2_with (first | (go_at_call 91; go_must (refine (in_no _ _ _ _ h3).mono ?_); rintro e w1 ⟨rfl, rfl⟩))
          all_goals go_ret
          all_goals exact ⟨ret_bool (by simp [C.ok, *]; try omega), (by repeat (first | assumption | exact Below.refl _ _ | refine Below.drew ?_ | refine below_drewN ?_ _ | refine Below.alloc ?_ ?_ _ | refine Below.setCell ?_ ?_ _ | (apply Below.size; assumption) | (simp; done) | (simp; omega) | (have hz := hb.size; simp; omega) | (have hz := hb.size; omega) | omega))⟩
      · go_enter Try.func97, Try.ntmps97
        go_wp2
        all_goals go_ret
        all_goals exact ⟨ret_bool (by simp [C.ok, *]), (by repeat (first | assumption | exact Below.refl _ _ | refine Below.drew ?_ | refine below_drewN ?_ _ | refine Below.alloc ?_ ?_ _ | refine Below.setCell ?_ ?_ _ | (apply Below.size; assumption) | (simp; done) | (simp; omega) | (have hz := hb.size; simp; omega) | (have hz := hb.size; omega) | omega))⟩

set_option maxHeartbeats 400000 in
theorem cell_any (c : C) (w : World) (h : c.wf) : Calls Try.prog 83 #[c.val] w (RetV w (.bool c.ok)) := by
  obtain ⟨k, s, n⟩ := c
  obtain ⟨hk, hn, hs⟩ := h
  unfold maxLen at hs
  dsimp only [C.val] at *
  by_cases k1 : k = 1
  · subst k1
    go_enter Try.func83, Try.ntmps83
    go_wp2
    all_goals go_ret
    all_goals exact ⟨ret_bool (by rw [Bool.eq_iff_iff]; simp [C.ok, *]; try omega), (by repeat (first | assumption | exact Below.refl _ _ | refine Below.drew ?_ | refine below_drewN ?_ _ | refine Below.alloc ?_ ?_ _ | refine Below.setCell ?_ ?_ _ | (apply Below.size; assumption) | (simp; done) | (simp; omega) | (have hz := hb.size; simp; omega) | (have hz := hb.size; omega) | omega))⟩
  · by_cases k2 : k = 2
    · subst k2
      go_enter Try.func83, Try.ntmps83
      go_wp2
      all_goals go_ret
      all_goals exact ⟨ret_bool (by rw [Bool.eq_iff_iff]; simp [C.ok, *]; try omega), (by repeat (first | assumption | exact Below.refl _ _ | refine Below.drew ?_ | refine below_drewN ?_ _ | refine Below.alloc ?_ ?_ _ | refine Below.setCell ?_ ?_ _ | (apply Below.size; assumption) | (simp; done) | (simp; omega) | (have hz := hb.size; simp; omega) | (have hz := hb.size; omega) | omega))⟩
    · by_cases k3 : k = 3
      · subst k3
        cases ho : okName s
        all_goals
          have Ho := Lib.hid ho
          have hno := name_any s
          rw [ho] at hno
          have Hno := Lib.hid hno
          clear ho hno
          go_enter Try.func83, Try.ntmps83
          go_wp2_with (first | (go_at_call 94; go_must (refine (Hno.out _ hs).mono ?_); rintro e w1 ⟨rfl, rfl⟩))
          all_goals go_ret
          all_goals exact ⟨ret_bool (by rw [Bool.eq_iff_iff]; simp [C.ok, Ho.out, *]; try omega), (by repeat (first | assumption | exact Below.refl _ _ | refine Below.drew ?_ | refine below_drewN ?_ _ | refine Below.alloc ?_ ?_ _ | refine Below.setCell ?_ ?_ _ | (apply Below.size; assumption) | (simp; done) | (simp; omega) | (have hz := hb.size; simp; omega) | (have hz := hb.size; omega) | omega))⟩
      · go_enter Try.func83, Try.ntmps83
        go_wp2
        all_goals go_ret
        all_goals exact ⟨ret_bool (by simp [C.ok, *]), (by repeat (first | assumption | exact Below.refl _ _ | refine Below.drew ?_ | refine below_drewN ?_ _ | refine Below.alloc ?_ ?_ _ | refine Below.setCell ?_ ?_ _ | (apply Below.size; assumption) | (simp; done) | (simp; omega) | (have hz := hb.size; simp; omega) | (have hz := hb.size; omega) | omega))⟩
end Go.Proofs.Ytlndjooddkjnoaa
