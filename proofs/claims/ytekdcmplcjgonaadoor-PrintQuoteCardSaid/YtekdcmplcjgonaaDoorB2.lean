/- Texts of this proof that belong together: words of memory, plain laws, short walks. -/
import Derived.Test.YtekdcmplcjgonaaDoorRows
import Derived.Test.YtekdcmplcjgonaaDoorB0
import Derived.Laws.EntriesVeiled
import Derived.Lib.AppendZeros
set_option linter.unusedVariables false
set_option linter.unusedSimpArgs false
/- The walks over the cells of terms: which cells may be. -/
namespace Go.Proofs.YtekdcmplcjgonaaDoor
open Go.RowKit

theorem in_any (n lo hi : Int) (w : World) : Calls Tryd.prog 104 #[.int .i64 n, .int .i64 lo, .int .i64 hi] w fun e w' => e = .returned (.bool (decide (lo ≤ n) && decide (n ≤ hi))) ∧ w = w' := by
  by_cases h1 : lo ≤ n
  · go_enter Tryd.func104, Tryd.ntmps104
    go_wp2
    go_ret
    exact ⟨by simp [h1], rfl⟩
  · go_enter Tryd.func104, Tryd.ntmps104
    go_wp2
    go_ret
    exact ⟨ret_bool (by simp; intro _; omega), rfl⟩
theorem in_yes (n lo hi : Int) (w : World) (h1 : lo ≤ n) (h2 : n ≤ hi) : Calls Tryd.prog 104 #[.int .i64 n, .int .i64 lo, .int .i64 hi] w fun e w' => e = .returned (.bool true) ∧ w = w' :=
  (in_any n lo hi w).mono fun e w' ⟨h, h'⟩ => ⟨by rw [h]; simp [h1, h2], h'⟩
theorem in_no (n lo hi : Int) (w : World) (h : n < lo ∨ hi < n) : Calls Tryd.prog 104 #[.int .i64 n, .int .i64 lo, .int .i64 hi] w fun e w' => e = .returned (.bool false) ∧ w = w' :=
  (in_any n lo hi w).mono fun e w' ⟨h1, h'⟩ => ⟨by rw [h1]; exact ret_bool (by simp; intro _; omega), h'⟩

set_option maxHeartbeats 400000 in
theorem name_any (s : ByteArray) (w : World) (hs : s.size ≤ 9223372036854775807) : Calls Tryd.prog 90 #[.string s] w fun e w' => e = .returned (.bool (okName s)) ∧ w = w' := by
  go_enter Tryd.func90, Tryd.ntmps90
  go_wp2
  go_loop [3] (fun i => ∃ k : Nat, k ≤ s.size ∧ i = .int .i64 k ∧ Hid ((s.data.toList.drop k).any oddB = s.data.toList.any oddB)) (fun i => s.size - (intOf i).toNat)
  case atStart => exact ⟨0, Nat.zero_le _, rfl, rfl⟩
  case round =>
    obtain ⟨k, hk, rfl, hres⟩ := hrel
    by_cases hlt : k < s.size
    · have hodd : (s[k].toNat : Int) < 32 ∨ 126 < (s[k].toNat : Int) ∨ (s[k].toNat : Int) = 39 → okName s = false := fun h => by
        have := hres.out
        rw [any_drop oddB s k hlt, oddB_yes h] at this
        simp [okName, ← this]
      have hnext : 32 ≤ (s[k].toNat : Int) → (s[k].toNat : Int) ≤ 126 → (s[k].toNat : Int) ≠ 39 → (s.data.toList.drop (k + 1)).any oddB = s.data.toList.any oddB := fun h1 h2 h3 => by
        have := hres.out
        rw [any_drop oddB s k hlt, oddB_no h1 h2 h3] at this
        simpa using this
      have Hodd := Lib.hid hodd
      have Hnext := Lib.hid hnext
      clear hodd hnext hres
      go_wp2
      · go_ret
        rename_i h _
        exact ⟨ret_bool (Eq.symm (Hodd.out (by simp at h; omega))), rfl⟩
      · rename_i h
        obtain ⟨_, h⟩ := h
        go_round
        case rel => exact ⟨k + 1, by omega, by go_num, Hnext.out (by omega) (by omega) (by simpa using h)⟩
        case measure => simp [intOf]; omega
      · go_ret
        exact ⟨ret_bool (Eq.symm (Hodd.out (by omega))), rfl⟩
      · go_ret
        exact ⟨ret_bool (Eq.symm (Hodd.out (by omega))), rfl⟩
    · have hall : s.data.toList.any oddB = false := by
        have := hres.out
        rw [List.drop_of_length_le (by simp; omega)] at this
        simpa using this.symm
      have Hall := Lib.hid hall
      clear hall hres
      go_wp2
      all_goals go_ret
      all_goals exact ⟨ret_bool (by rw [Bool.eq_iff_iff]; simp [okName, Hall.out]; omega), rfl⟩

set_option maxHeartbeats 400000 in
theorem right1_any (r : Int) (w : World) : Calls Tryd.prog 105 #[.int .i32 r] w fun e w' => e = .returned (.bool (oddR r)) ∧ w = w' := by
  go_enter Tryd.func105, Tryd.ntmps105
  go_wp2
  all_goals go_ret
  all_goals exact ⟨ret_bool (by rw [Bool.eq_iff_iff]; simp [oddR]; omega), rfl⟩

set_option maxHeartbeats 400000 in
theorem indexR_any (A : Option Addr) (n cap : Nat) (rs : List Int) (w : World) (h : IsR w A n cap rs) (hn : n ≤ 100000) :
    Calls Tryd.prog 116 #[.slice A n cap, .func (.func 105) #[] #[]] w fun e w' => e = .returned (.int .i64 (idxF oddR 0 rs)) ∧ w = w' := by
  go_enter Tryd.func116, Tryd.ntmps116
  go_wp2
  go_loop [8] (fun i => ∃ k : Nat, k ≤ n ∧ i = .int .i64 k ∧ Hid (idxF oddR k (rs.drop k) = idxF oddR 0 rs)) (fun i => n - (intOf i).toNat)
  case atStart => exact ⟨0, Nat.zero_le _, rfl, rfl⟩
  case round =>
    obtain ⟨k, hk, rfl, hres⟩ := hrel
    by_cases hlt : k < n
    · obtain ⟨x, hx⟩ := h.get hlt
      obtain ⟨b, off, rfl, hb, hwf, hc⟩ := h.at_ hx
      have hd : rs.drop k = x :: rs.drop (k + 1) := by
        obtain ⟨hl, he⟩ := List.getElem?_eq_some_iff.1 hx
        rw [List.drop_eq_getElem_cons hl, he]
      have Hd := Lib.hid hd
      clear hx hd
      cases ho : oddR x
      all_goals
        have Ho := Lib.hid ho
        go_wp2_with (go_at_call 105; go_must (refine (right1_any x _).mono ?_); rintro e w1 ⟨rfl, rfl⟩)
      · go_round
        case rel => exact ⟨k + 1, by omega, by go_num, by have := hres.out; rw [Hd.out, idxF, if_neg (by simp [Ho.out])] at this; exact this⟩
        case measure => simp [intOf]; omega
      · go_ret
        exact ⟨ret_int (by have := hres.out; rw [Hd.out, idxF, if_pos (by simp [Ho.out])] at this; exact this), rfl⟩
    · go_wp2
      go_ret
      exact ⟨ret_int (by have := hres.out; rw [List.drop_of_length_le (by have := h.len; omega)] at this; simpa [idxF] using this), rfl⟩

theorem containsR_any (A : Option Addr) (n cap : Nat) (rs : List Int) (w : World) (h : IsR w A n cap rs) (hn : n ≤ 100000) :
    Calls Tryd.prog 106 #[.slice A n cap, .func (.func 105) #[] #[]] w fun e w' => e = .returned (.bool (rs.any oddR)) ∧ w = w' := by
  have hi := idxF_any oddR rs 0
  have Hi := Lib.hid hi
  clear hi
  go_enter Tryd.func106, Tryd.ntmps106
  go_wp2_with (go_at_call 116; go_must (refine (indexR_any A n cap rs _ h hn).mono ?_); rintro e w1 ⟨rfl, rfl⟩)
  go_ret
  exact ⟨ret_bool Hi.out, rfl⟩

set_option maxHeartbeats 400000 in
theorem right_any (c : C) (w : World) (h : c.wf) : Calls Tryd.prog 93 #[c.val] w (RetV w (.bool c.ok)) := by
  obtain ⟨k, s, n⟩ := c
  obtain ⟨hk, hn, hs⟩ := h
  unfold maxLen at hs
  dsimp only [C.val] at *
  by_cases k1 : k = 1
  · subst k1
    by_cases h2 : 0 ≤ n ∧ n ≤ 999
    · obtain ⟨h3, h4⟩ := h2
      go_enter Tryd.func93, Tryd.ntmps93
      go_wp2_with (first | (go_at_call 104; go_must (refine (in_yes _ _ _ _ h3 h4).mono ?_); rintro e w1 ⟨rfl, rfl⟩))
      all_goals go_ret
      all_goals exact ⟨ret_bool (by simp [C.ok, *]), (by repeat (first | assumption | exact Below.refl _ _ | refine Below.drew ?_ | refine below_drewN ?_ _ | refine Below.alloc ?_ ?_ _ | refine Below.setCell ?_ ?_ _ | (apply Below.size; assumption) | (simp; done) | (simp; omega) | (have hz := hb.size; simp; omega) | (have hz := hb.size; omega) | omega))⟩
    · have h3 : n < 0 ∨ 999 < n := by omega
      go_enter Tryd.func93, Tryd.ntmps93
      go_wp2_with (first | (go_at_call 104; go_must (refine (in_no _ _ _ _ h3).mono ?_); rintro e w1 ⟨rfl, rfl⟩))
      all_goals go_ret
      all_goals exact ⟨ret_bool (by simp [C.ok, *]; try omega), (by repeat (first | assumption | exact Below.refl _ _ | refine Below.drew ?_ | refine below_drewN ?_ _ | refine Below.alloc ?_ ?_ _ | refine Below.setCell ?_ ?_ _ | (apply Below.size; assumption) | (simp; done) | (simp; omega) | (have hz := hb.size; simp; omega) | (have hz := hb.size; omega) | omega))⟩
  · by_cases k2 : k = 2
    · subst k2
      by_cases h2 : -2147483647 ≤ n ∧ n ≤ 2147483647
      · obtain ⟨h3, h4⟩ := h2
        go_enter Tryd.func93, Tryd.ntmps93
        go_wp2_with (first | (go_at_call 104; go_must (refine (in_yes _ _ _ _ h3 h4).mono ?_); rintro e w1 ⟨rfl, rfl⟩))
        all_goals go_ret
        all_goals exact ⟨ret_bool (by simp [C.ok, *]), (by repeat (first | assumption | exact Below.refl _ _ | refine Below.drew ?_ | refine below_drewN ?_ _ | refine Below.alloc ?_ ?_ _ | refine Below.setCell ?_ ?_ _ | (apply Below.size; assumption) | (simp; done) | (simp; omega) | (have hz := hb.size; simp; omega) | (have hz := hb.size; omega) | omega))⟩
      · have h3 : n < -2147483647 ∨ 2147483647 < n := by omega
        go_enter Tryd.func93, Tryd.ntmps93
        go_wp2_with (first | (go_at_call 104; go_must (refine (in_no _ _ _ _ h3).mono ?_); rintro e w1 ⟨rfl, rfl⟩))
        all_goals go_ret
        all_goals exact ⟨ret_bool (by simp [C.ok, *]; try omega), (by repeat (first | assumption | exact Below.refl _ _ | refine Below.drew ?_ | refine below_drewN ?_ _ | refine Below.alloc ?_ ?_ _ | refine Below.setCell ?_ ?_ _ | (apply Below.size; assumption) | (simp; done) | (simp; omega) | (have hz := hb.size; simp; omega) | (have hz := hb.size; omega) | omega))⟩
    · by_cases k3 : k = 3
      · subst k3
        by_cases h2 : 0 ≤ n ∧ n ≤ 6
        · obtain ⟨h3, h4⟩ := h2
          by_cases h5 : 1 ≤ s.size ∧ s.size ≤ 12
          · have h6 : (1 : Int) ≤ (s.size : Int) := by omega
            have h7 : (s.size : Int) ≤ 12 := by omega
            go_enter Tryd.func93, Tryd.ntmps93
            go_wp2_with (first
              | (go_at_call 104; (first | (with_reducible refine (in_yes n 0 6 _ h3 h4).mono ?_) | (with_reducible refine (in_yes _ 1 12 _ h6 h7).mono ?_)); rintro e w1 ⟨rfl, rfl⟩)
              | (refine wpList_runes rfl (.tmp 43) 9 139 21 rfl Tryd.underlying9 Tryd.underlying139 Tryd.underlying21 s rfl (by omega) ?_; intro A m cap w1 rs hb hr hm hodd; have Hodd := Lib.hid hodd; clear hodd; replace hb := Below.trans (a := w) (B := w.heap.size) (by repeat (first | assumption | exact Below.refl _ _ | refine Below.drew ?_ | refine below_drewN ?_ _ | refine Below.alloc ?_ ?_ _ | refine Below.setCell ?_ ?_ _ | (apply Below.size; assumption) | (simp; done) | (simp; omega) | (have hz := hb.size; simp; omega) | (have hz := hb.size; omega) | omega)) (hb.mono (by first | exact Nat.le_refl _ | (simp; done) | (simp; omega))))
              | (go_at_call 106; go_must (refine (containsR_any A m cap rs _ hr hm).mono ?_); rintro e w1 ⟨rfl, rfl⟩))
            go_ret
            exact ⟨ret_bool (by simp [C.ok, okName, Hodd.out, h5, h3, h4]), hb⟩
          · have h6 : (s.size : Int) < 1 ∨ 12 < (s.size : Int) := by omega
            go_enter Tryd.func93, Tryd.ntmps93
            go_wp2_with (first
              | (go_at_call 104; (first | (with_reducible refine (in_yes n 0 6 _ h3 h4).mono ?_) | (with_reducible refine (in_no _ 1 12 _ h6).mono ?_)); rintro e w1 ⟨rfl, rfl⟩))
            go_ret
            exact ⟨ret_bool (by simp [C.ok, okName, h3, h4]; omega), (by repeat (first | assumption | exact Below.refl _ _ | refine Below.drew ?_ | refine below_drewN ?_ _ | refine Below.alloc ?_ ?_ _ | refine Below.setCell ?_ ?_ _ | (apply Below.size; assumption) | (simp; done) | (simp; omega) | (have hz := hb.size; simp; omega) | (have hz := hb.size; omega) | omega))⟩
        · have h3 : n < 0 ∨ 6 < n := by omega
          go_enter Tryd.func93, Tryd.ntmps93
          go_wp2_with (first | (go_at_call 104; go_must (refine (in_no _ _ _ _ h3).mono ?_); rintro e w1 ⟨rfl, rfl⟩))
          all_goals go_ret
          all_goals exact ⟨ret_bool (by simp [C.ok, *]; try omega), (by repeat (first | assumption | exact Below.refl _ _ | refine Below.drew ?_ | refine below_drewN ?_ _ | refine Below.alloc ?_ ?_ _ | refine Below.setCell ?_ ?_ _ | (apply Below.size; assumption) | (simp; done) | (simp; omega) | (have hz := hb.size; simp; omega) | (have hz := hb.size; omega) | omega))⟩
      · go_enter Tryd.func93, Tryd.ntmps93
        go_wp2
        all_goals go_ret
        all_goals exact ⟨ret_bool (by simp [C.ok, *]), (by repeat (first | assumption | exact Below.refl _ _ | refine Below.drew ?_ | refine below_drewN ?_ _ | refine Below.alloc ?_ ?_ _ | refine Below.setCell ?_ ?_ _ | (apply Below.size; assumption) | (simp; done) | (simp; omega) | (have hz := hb.size; simp; omega) | (have hz := hb.size; omega) | omega))⟩

set_option maxHeartbeats 400000 in
theorem cell_any (c : C) (w : World) (h : c.wf) : Calls Tryd.prog 80 #[c.val] w (RetV w (.bool c.ok)) := by
  obtain ⟨k, s, n⟩ := c
  obtain ⟨hk, hn, hs⟩ := h
  unfold maxLen at hs
  dsimp only [C.val] at *
  by_cases k1 : k = 1
  · subst k1
    go_enter Tryd.func80, Tryd.ntmps80
    go_wp2
    all_goals go_ret
    all_goals exact ⟨ret_bool (by rw [Bool.eq_iff_iff]; simp [C.ok, *]; try omega), (by repeat (first | assumption | exact Below.refl _ _ | refine Below.drew ?_ | refine below_drewN ?_ _ | refine Below.alloc ?_ ?_ _ | refine Below.setCell ?_ ?_ _ | (apply Below.size; assumption) | (simp; done) | (simp; omega) | (have hz := hb.size; simp; omega) | (have hz := hb.size; omega) | omega))⟩
  · by_cases k2 : k = 2
    · subst k2
      go_enter Tryd.func80, Tryd.ntmps80
      go_wp2
      all_goals go_ret
      all_goals exact ⟨ret_bool (by rw [Bool.eq_iff_iff]; simp [C.ok, *]; try omega), (by repeat (first | assumption | exact Below.refl _ _ | refine Below.drew ?_ | refine below_drewN ?_ _ | refine Below.alloc ?_ ?_ _ | refine Below.setCell ?_ ?_ _ | (apply Below.size; assumption) | (simp; done) | (simp; omega) | (have hz := hb.size; simp; omega) | (have hz := hb.size; omega) | omega))⟩
    · by_cases k3 : k = 3
      · subst k3
        cases ho : okName s
        all_goals
          have Ho := Lib.hid ho
          have hno := name_any s
          rw [ho] at hno
          have Hno := Lib.hid hno
          clear ho hno
          go_enter Tryd.func80, Tryd.ntmps80
          go_wp2_with (first | (go_at_call 90; go_must (refine (Hno.out _ hs).mono ?_); rintro e w1 ⟨rfl, rfl⟩))
          all_goals go_ret
          all_goals exact ⟨ret_bool (by rw [Bool.eq_iff_iff]; simp [C.ok, Ho.out, *]; try omega), (by repeat (first | assumption | exact Below.refl _ _ | refine Below.drew ?_ | refine below_drewN ?_ _ | refine Below.alloc ?_ ?_ _ | refine Below.setCell ?_ ?_ _ | (apply Below.size; assumption) | (simp; done) | (simp; omega) | (have hz := hb.size; simp; omega) | (have hz := hb.size; omega) | omega))⟩
      · go_enter Tryd.func80, Tryd.ntmps80
        go_wp2
        all_goals go_ret
        all_goals exact ⟨ret_bool (by simp [C.ok, *]), (by repeat (first | assumption | exact Below.refl _ _ | refine Below.drew ?_ | refine below_drewN ?_ _ | refine Below.alloc ?_ ?_ _ | refine Below.setCell ?_ ?_ _ | (apply Below.size; assumption) | (simp; done) | (simp; omega) | (have hz := hb.size; simp; omega) | (have hz := hb.size; omega) | omega))⟩
end Go.Proofs.YtekdcmplcjgonaaDoor

/- The walks that pass over a term, and ask whether a row is one. -/
namespace Go.Proofs.YtekdcmplcjgonaaDoor
open Go.RowKit

set_option maxHeartbeats 400000 in
theorem rEnd_any (A : Option Addr) (n cap : Nat) (t : List C) (at_ : Nat) (w : World) (h : IsC w A n cap t) (hn : n ≤ 100000) (hat : at_ ≤ 100000) :
    Calls Tryd.prog 58 #[.slice A n cap, .int .i64 at_] w (RetV w (.int .i64 (endR t at_))) := by
  go_enter Tryd.func58, Tryd.ntmps58
  go_wp2
  go_loopw [5, 6] (fun o i wr => ∃ (k m : Nat), k ≤ 100000 ∧ i = .int .i64 k ∧ o = .int .i64 m ∧ 0 < m ∧ m ≤ 1 + 6 * k ∧ at_ ≤ k ∧ Hid (skip (t.drop k) m = skip (t.drop at_) 1) ∧ Below w.heap.size w wr) (fun _ i _ => n - (intOf i).toNat)
  case atStart => exact ⟨at_, 1, hat, rfl, rfl, by omega, by omega, Nat.le_refl _, rfl, Below.refl _ _⟩
  case round =>
    obtain ⟨k, m, hk, rfl, rfl, hm, hm2, hle, hres, hb⟩ := hrel
    by_cases hlt : k < n
    · obtain ⟨x, hxk⟩ := h.get hlt
      obtain ⟨b, off, rfl, hbb, hwf, h0, h1, h2⟩ := h.at_ hxk
      have hd := drop_get hxk
      have hl := h.len
      have Hd := Lib.hid hd
      have Hl := Lib.hid hl
      clear hxk hd hl
      obtain ⟨hc, hf⟩ := bcell hb
      have hany := cell_any x
      cases ho : x.ok
      · rw [ho] at hany
        have Hany := Lib.hid hany
        have Ho := Lib.hid ho
        clear hany ho
        go_wp2_with (first | (go_at_call 80; go_must (refine (Hany.out _ hwf).mono ?_); rintro e w1 ⟨rfl, hbn⟩; replace hb := hb.trans (hbn.mono hb.size); clear hbn; obtain ⟨hc, hf⟩ := bcell hb))
        go_ret
        refine ⟨ret_int (Eq.symm (endR_none ?_)), hb⟩
        rw [endN_none, ← hres.out, Hd.out]
        obtain ⟨m, rfl⟩ : ∃ q, m = q + 1 := ⟨m - 1, by omega⟩
        rw [skip_cons, Ho.out]; rfl
      · rw [ho] at hany
        have Hany := Lib.hid hany
        have Ho := Lib.hid ho
        by_cases hk3 : x.kind = 3
        · have hn6 := ok_fun ho hk3
          obtain ⟨hn0, hn6⟩ := hn6
          have har := ar_fun ho hk3
          have Har := Lib.hid har
          have Hk3 := Lib.hid hk3
          have hbk : (x.kind == 3) = true := by simp [hk3]
          clear hany ho hk3 har
          by_cases hz : m - 1 + x.n.toNat = 0
          · have hz' : ((m : Int) - 1 + x.n == 0) = true := by simp; omega
            go_wp2_with (first | (go_at_call 80; go_must (refine (Hany.out _ hwf).mono ?_); rintro e w1 ⟨rfl, hbn⟩; replace hb := hb.trans (hbn.mono hb.size); clear hbn; obtain ⟨hc, hf⟩ := bcell hb))
            go_ret
            refine ⟨ret_int (Eq.symm (endR_some (e := k + 1) ?_)), hb⟩
            rw [endN_some, ← hres.out, Hd.out]
            have hm1 : m = 0 + 1 := by omega
            have har0 : x.ar = 0 := by have := Har.out; omega
            have hlen := Hl.out
            rw [hm1, skip_cons, if_pos Ho.out, har0, skip_zero]
            exact ⟨rfl, by omega, by omega⟩
          · have hz' : ((m : Int) - 1 + x.n == 0) = false := by simp; omega
            go_wp2_with (first | (go_at_call 80; go_must (refine (Hany.out _ hwf).mono ?_); rintro e w1 ⟨rfl, hbn⟩; replace hb := hb.trans (hbn.mono hb.size); clear hbn; obtain ⟨hc, hf⟩ := bcell hb))
            have hlen := Hl.out
            have har := Har.out
            go_roundw
            case rel =>
              refine ⟨k + 1, m - 1 + x.n.toNat, by omega, by go_num, ?_, by omega, by omega, by omega, Lib.hid ?_, hb⟩
              · congr 1; omega
              · have := hres.out
                rw [Hd.out, show m = (m - 1) + 1 by omega, skip_cons, if_pos Ho.out] at this
                rw [← this]
                congr 1; omega
            case measure => simp [intOf]; omega
        · have har := ar_other hk3
          have Har := Lib.hid har
          have hbk : (x.kind == 3) = false := by simp [hk3]
          clear hany ho hk3 har
          by_cases hz : m = 1
          · subst hz
            go_wp2_with (first | (go_at_call 80; go_must (refine (Hany.out _ hwf).mono ?_); rintro e w1 ⟨rfl, hbn⟩; replace hb := hb.trans (hbn.mono hb.size); clear hbn; obtain ⟨hc, hf⟩ := bcell hb))
            go_ret
            refine ⟨ret_int (Eq.symm (endR_some (e := k + 1) ?_)), hb⟩
            rw [endN_some, ← hres.out, Hd.out]
            have hlen := Hl.out
            rw [skip_cons, if_pos Ho.out, Har.out, skip_zero]
            exact ⟨rfl, by omega, by omega⟩
          · have hz' : ((m : Int) - 1 == 0) = false := by simp; omega
            go_wp2_with (first | (go_at_call 80; go_must (refine (Hany.out _ hwf).mono ?_); rintro e w1 ⟨rfl, hbn⟩; replace hb := hb.trans (hbn.mono hb.size); clear hbn; obtain ⟨hc, hf⟩ := bcell hb))
            have hlen := Hl.out
            have har := Har.out
            go_roundw
            case rel =>
              refine ⟨k + 1, m - 1, by omega, by go_num, ?_, by omega, by omega, by omega, Lib.hid ?_, hb⟩
              · congr 1; omega
              · have := hres.out
                rw [Hd.out, show m = (m - 1) + 1 by omega, skip_cons, if_pos Ho.out, har, Nat.add_zero] at this
                exact this
            case measure => simp [intOf]; omega
    · go_wp2
      go_ret
      refine ⟨ret_int (Eq.symm (endR_none ?_)), hb⟩
      rw [endN_none, ← hres.out, drop_end h.len hlt]
      exact skip_nil _ hm

set_option maxHeartbeats 400000 in
theorem rRight_any (A : Option Addr) (n cap : Nat) (t : List C) (w : World) (h : IsC w A n cap t) (hn : n ≤ 100000) : Calls Tryd.prog 36 #[.slice A n cap] w (RetV w (.bool (rightB t))) := by
  have hl := h.len
  have Hl := Lib.hid hl
  have hr := endR t 0
  clear hl
  go_enter Tryd.func36, Tryd.ntmps36
  go_wp2_with (first | (go_at_call 58; go_must (refine (rEnd_any A n cap t 0 _ h hn (by omega)).mono ?_); rintro e w1 ⟨rfl, hb⟩))
  · go_ret
    exact ⟨ret_bool (right_R t n Hl.out (by omega) (by omega)), hb⟩
  · go_ret
    exact ⟨ret_bool (right_no t n Hl.out (by omega)).symm, Below.refl _ _⟩
  · go_ret
    exact ⟨ret_bool (right_no t n Hl.out (by omega)).symm, Below.refl _ _⟩

/-- 'visit': the closure of term.end -/
theorem visit_any (A : Option Addr) (n cap : Nat) (t : List C) (bt bv : Nat) (hn : n ≤ 100000) (hl : t.length = n) (fuel : Nat) : ∀ (at_ : Nat) (w : World), n ≤ at_ + fuel → at_ ≤ 100000 → IsC w A n cap t → bt < w.heap.size → bv < w.heap.size →
    w.cell? ⟨bt, 0, none⟩ = some (.slice A n cap) → w.cell? ⟨bv, 0, none⟩ = some (.func (.func 92) #[] #[.pointer (some ⟨bt, 0, none⟩), .pointer (some ⟨bv, 0, none⟩)]) →
    Calls Tryd.prog 92 #[.int .i64 at_, .pointer (some ⟨bt, 0, none⟩), .pointer (some ⟨bv, 0, none⟩)] w (RetV w (.int .i64 (endT t at_))) := by
  have Hl := Lib.hid hl
  clear hl
  induction fuel with
  | zero =>
    intro at_ w hf hat h hbt hbv ct cv
    have hout : endT t at_ = 0 := endT_none (endN_out (by have := Hl.out; omega))
    have Hout := Lib.hid hout
    clear hout
    go_enter Tryd.func92, Tryd.ntmps92
    go_wp2_with fail
    go_ret
    exact ⟨ret_int Hout.out.symm, Below.refl _ _⟩
  | succ fuel ih =>
    intro at_ w hf hat h hbt hbv ct cv
    have Ih := Lib.hid ih
    clear ih
    by_cases hlt : at_ < n
    · obtain ⟨x, hxk⟩ := h.get hlt
      obtain ⟨b, off, rfl, hbb, hwf, h0, h1, h2⟩ := h.at_ hxk
      have Hx := Lib.hid hxk
      clear hxk
      have hany := right_any x
      have hb := Below.refl w.heap.size w
      cases ho : x.ok
      · rw [ho] at hany
        have Hany := Lib.hid hany
        have Ho := Lib.hid ho
        clear hany ho
        go_enter Tryd.func92, Tryd.ntmps92
        go_wp2_with (first | (go_at_call 93; go_must (refine (Hany.out _ hwf).mono ?_); rintro e w1 ⟨rfl, hbn⟩; replace hb := hb.trans (hbn.mono hb.size); clear hbn; obtain ⟨hc, hf⟩ := bcell hb))
        go_ret
        exact ⟨ret_int (endT_none (endN_bad Hx.out Ho.out)).symm, hb⟩
      · rw [ho] at hany
        have Hany := Lib.hid hany
        have Ho := Lib.hid ho
        by_cases hk3 : x.kind = 3
        · have hbk : (x.kind != 3) = false := by simp [hk3]
          have hdec : decide (n ≤ at_) = false := by simp; omega
          have hn6 := ok_fun ho hk3
          obtain ⟨hn0, hn6⟩ := hn6
          have har := ar_fun ho hk3
          have Har := Lib.hid har
          clear hany ho hk3 har
          go_enter Tryd.func92, Tryd.ntmps92
          go_wp2_with (first | (go_at_call 93; go_must (refine (Hany.out _ hwf).mono ?_); rintro e w1 ⟨rfl, hbn⟩; replace hb := hb.trans (hbn.mono hb.size); clear hbn; obtain ⟨hc, hf⟩ := bcell hb))
          go_loopw [5, 32] (fun p j wr => ∃ (q i : Nat), p = .int .i64 q ∧ j = .int .i64 i ∧ i ≤ x.ar ∧ at_ + 1 ≤ q ∧ q ≤ n ∧ Hid (skip (t.drop q) (x.ar - i) = skip (t.drop (at_ + 1)) x.ar) ∧ Below w.heap.size w wr) (fun _ j _ => x.ar - (intOf j).toNat)
          case atStart => exact ⟨at_ + 1, 0, by go_num, rfl, Nat.zero_le _, Nat.le_refl _, by omega, rfl, hb⟩
          case round =>
            clear hb hc hf
            obtain ⟨q, i, rfl, rfl, hi, hq1, hq2, hres, hb⟩ := hrel
            obtain ⟨hc, hf⟩ := bcell hb
            by_cases hj : i < x.ar
            · have hj' : (i : Int) < x.n := by have := Har.out; omega
              have hvis := Ih.out q wr (by omega) (by omega) (h.below hb) (Nat.lt_of_lt_of_le hbt hb.size) (Nat.lt_of_lt_of_le hbv hb.size) ((hc _ _ hbt).trans ct) ((hc _ _ hbv).trans cv)
              cases he : endN t q with
              | none =>
                rw [endT_none he] at hvis
                have Hvis := Lib.hid hvis
                have He := Lib.hid he
                clear hvis he
                go_wp2_with (first | (go_at_call 92; go_must (refine Hvis.out.mono ?_); rintro e w2 ⟨rfl, hb2⟩; replace hb := hb.trans (hb2.mono hb.size)))
                go_ret
                refine ⟨ret_int (endT_none (endN_args Hx.out Ho.out ?_)).symm, hb⟩
                rw [← hres.out, show x.ar - i = 1 + (x.ar - i - 1) by omega, skip_add, endN_none.1 He.out]
                rfl
              | some e =>
                obtain ⟨he1, he2, he3⟩ := endN_some.1 he
                rw [endT_some he] at hvis
                have hez : ((e : Int) == 0) = false := by simp; omega
                have Hvis := Lib.hid hvis
                have He1 := Lib.hid he1
                clear hvis he he1
                go_wp2_with (first | (go_at_call 92; go_must (refine Hvis.out.mono ?_); rintro e w2 ⟨rfl, hb2⟩; replace hb := hb.trans (hb2.mono hb.size)))
                have hlen := Hl.out
                go_roundw
                case rel =>
                  refine ⟨e, i + 1, rfl, by go_num, by omega, by omega, by omega, Lib.hid ?_, hb⟩
                  rw [← hres.out, show x.ar - i = 1 + (x.ar - (i + 1)) by omega, skip_add, He1.out]
                  rfl
                case measure => simp [intOf]; omega
            · have hj' : ¬ (i : Int) < x.n := by have := Har.out; omega
              go_wp2
              go_ret
              have hlen := Hl.out
              refine ⟨ret_int (Eq.symm (endT_some (endN_good Hx.out Ho.out (by omega) (by omega) ?_))), hb⟩
              rw [← hres.out, show x.ar - i = 0 by omega, skip_zero]
        · have hbk : (x.kind != 3) = true := by simp [hk3]
          have har := ar_other hk3
          have Har := Lib.hid har
          clear hany ho hk3 har
          go_enter Tryd.func92, Tryd.ntmps92
          go_wp2_with (first | (go_at_call 93; go_must (refine (Hany.out _ hwf).mono ?_); rintro e w1 ⟨rfl, hbn⟩; replace hb := hb.trans (hbn.mono hb.size); clear hbn; obtain ⟨hc, hf⟩ := bcell hb))
          go_ret
          refine ⟨ret_int (Eq.symm (endT_some (e := at_ + 1) (endN_good Hx.out Ho.out (by omega) (by have := Hl.out; omega) ?_))), hb⟩
          rw [Har.out, skip_zero]
    · have hout : endT t at_ = 0 := endT_none (endN_out (by have := Hl.out; omega))
      have Hout := Lib.hid hout
      clear hout
      go_enter Tryd.func92, Tryd.ntmps92
      go_wp2_with fail
      go_ret
      exact ⟨ret_int Hout.out.symm, Below.refl _ _⟩

set_option maxHeartbeats 400000 in
theorem tend_any (A : Option Addr) (n cap : Nat) (t : List C) (at_ : Nat) (w : World) (h : IsC w A n cap t) (hn : n ≤ 100000) (hat : at_ ≤ 100000) :
    Calls Tryd.prog 82 #[.slice A n cap, .int .i64 at_] w (RetV w (.int .i64 (endT t at_))) := by
  have hmf : ∀ (fn : Fn) (first cap : Array Value) (w : World), (Instr.makeFunc fn first cap).run Tryd.prog w = .ok (.func fn first cap) w := fun _ _ _ _ => rfl
  have hl := h.len
  have Hl := Lib.hid hl
  clear hl
  go_enter Tryd.func82, Tryd.ntmps82
  go_wp2_with fail
  refine (visit_any A n cap t w.heap.size (w.heap.size + 1) hn Hl.out n at_ _ (by omega) hat (h.below (by repeat (first | assumption | exact Below.refl _ _ | refine Below.drew ?_ | refine below_drewN ?_ _ | refine Below.alloc ?_ ?_ _ | refine Below.setCell ?_ ?_ _ | (apply Below.size; assumption) | (simp; done) | (simp; omega) | (have hz := hb.size; simp; omega) | (have hz := hb.size; omega) | omega))) (by simp; omega) (by simp) (by go_simp) (by go_simp)).mono ?_
  rintro e w1 ⟨rfl, hb⟩
  replace hb := Below.trans (a := w) (B := w.heap.size) (by repeat (first | assumption | exact Below.refl _ _ | refine Below.drew ?_ | refine below_drewN ?_ _ | refine Below.alloc ?_ ?_ _ | refine Below.setCell ?_ ?_ _ | (apply Below.size; assumption) | (simp; done) | (simp; omega) | (have hz := hb.size; simp; omega) | (have hz := hb.size; omega) | omega)) (hb.mono (by first | exact Nat.le_refl _ | (simp; done) | (simp; omega)))
  go_wp2_with fail
  go_ret
  exact ⟨rfl, hb⟩


end Go.Proofs.YtekdcmplcjgonaaDoor

/- The walks that hold rows against each other, and look for a number in a row. -/
namespace Go.Proofs.YtekdcmplcjgonaaDoor
open Go.RowKit

theorem eqC (a b : C) (w : World) : (binOp .eql 66 (.agg #[.int .i64 a.kind, .string a.name, .int .i64 a.n]) (.agg #[.int .i64 b.kind, .string b.name, .int .i64 b.n])).run Tryd.prog w = .ok (.bool (a.beq b)) w := by
  go_simp
  by_cases h1 : a.kind = b.kind <;> by_cases h2 : a.name.toList = b.name.toList <;> by_cases h3 : a.n = b.n <;> simp [C.beq, h1, h2, h3]
theorem neqC (a b : C) (w : World) : (binOp .neq 66 (.agg #[.int .i64 a.kind, .string a.name, .int .i64 a.n]) (.agg #[.int .i64 b.kind, .string b.name, .int .i64 b.n])).run Tryd.prog w = .ok (.bool (!a.beq b)) w := by
  go_simp
  by_cases h1 : a.kind = b.kind <;> by_cases h2 : a.name.toList = b.name.toList <;> by_cases h3 : a.n = b.n <;> simp [C.beq, h1, h2, h3]


set_option maxHeartbeats 400000 in
theorem rSame_any (A B : Option Addr) (n m cap cap' : Nat) (xs ys : List C) (w : World) (hx : IsC w A n cap xs) (hy : IsC w B m cap' ys) (hn : n ≤ 100000) (hm : m ≤ 100000) :
    Calls Tryd.prog 27 #[.slice A n cap, .slice B m cap'] w (RetD w (.bool (sameC xs ys))) := by
  by_cases hnm : n = m
  · subst hnm
    go_enter Tryd.func27, Tryd.ntmps27
    go_wp2
    go_loopw [5] (fun i wr => ∃ k : Nat, k ≤ n ∧ i = .int .i64 k ∧ Hid (sameC (xs.drop k) (ys.drop k) = sameC xs ys) ∧ ∃ d, wr = w.drewN d) (fun i _ => n - (intOf i).toNat)
    case atStart => exact ⟨0, Nat.zero_le _, rfl, rfl, 0, rfl⟩
    case round =>
      obtain ⟨k, hk, rfl, hres, d, rfl⟩ := hrel
      by_cases hlt : k < n
      · obtain ⟨x, hxk⟩ := hx.get hlt
        obtain ⟨y, hyk⟩ := hy.get hlt
        obtain ⟨b, off, rfl, hbb, hwf, h0, h1, h2⟩ := hx.at_ hxk
        obtain ⟨b', off', rfl, hbb', hwf', h0', h1', h2'⟩ := hy.at_ hyk
        have hd := drop_get hxk
        have hd' := drop_get hyk
        have Hd := Lib.hid hd
        have Hd' := Lib.hid hd'
        clear hxk hyk hd hd'
        have hp : (k : Int) < (n : Int) := by omega
        have hq := neqC x y
        go_wp2
        go_quiet (fail)
        go_wp2
        · rename_i h
          go_ret
          exact ⟨ret_bool (by have := hres.out; rw [Hd.out, Hd'.out, sameC] at this; rw [← this]; simp at h; simp [h]), _, World.drewN_drewN _ _ _⟩
        · rename_i h
          go_roundw
          case rel => exact ⟨k + 1, by omega, by go_num, by have := hres.out; rw [Hd.out, Hd'.out, sameC] at this; simp at h; exact Lib.hid (by simpa [h] using this), _, rfl⟩
          case measure => simp [intOf]; omega
      · go_wp2
        go_ret
        exact ⟨ret_bool (by have := hres.out; rw [drop_end hx.len hlt, drop_end hy.len hlt] at this; simpa [sameC] using this), d, rfl⟩
  · have hne : ((n : Int) == (m : Int)) = false := by simp; omega
    go_enter Tryd.func27, Tryd.ntmps27
    go_wp2
    go_ret
    exact ⟨ret_bool (sameC_len (by rw [hx.len, hy.len]; exact hnm)).symm, 0, rfl⟩



theorem inI_idx (ns : List Int) (x : Int) : inI ns x = decide (0 ≤ idxF (fun y => y == x) 0 ns) := by rw [idxF_any]; rfl

set_option maxHeartbeats 400000 in
theorem In_any (A : Option Addr) (n cap : Nat) (ns : List Int) (x : Int) (w : World) (h : IsI w A n cap ns) (hn : n ≤ 100000) :
    Calls Tryd.prog 51 #[.slice A n cap, .int .i64 x] w fun e w' => e = .returned (.bool (inI ns x)) ∧ w = w' := by
  go_enter Tryd.func51, Tryd.ntmps51
  go_wp2
  go_loop [5] (fun i => ∃ k : Nat, k ≤ n ∧ i = .int .i64 k ∧ Hid (idxF (fun y => y == x) k (ns.drop k) = idxF (fun y => y == x) 0 ns)) (fun i => n - (intOf i).toNat)
  case atStart => exact ⟨0, Nat.zero_le _, rfl, rfl⟩
  case round =>
    obtain ⟨k, hk, rfl, hres⟩ := hrel
    by_cases hlt : k < n
    · obtain ⟨y, hy⟩ := h.get hlt
      obtain ⟨b, off, rfl, hb, hwf, hc⟩ := h.at_ hy
      have hd := drop_get hy
      have Hd := Lib.hid hd
      clear hy hd
      cases ho : (y == x)
      all_goals
        have ho' : (x == y) = (y == x) := by rw [Bool.eq_iff_iff]; simp; exact ⟨Eq.symm, Eq.symm⟩
        rw [ho] at ho'
        have Ho := Lib.hid ho
        go_wp2
      · go_round
        case rel => exact ⟨k + 1, by omega, by go_num, by have := hres.out; rw [Hd.out, idxF, if_neg (by simp [Ho.out])] at this; exact this⟩
        case measure => simp [intOf]; omega
      · go_ret
        exact ⟨by have := hres.out; rw [Hd.out, idxF, if_pos (by simp [Ho.out])] at this; exact ret_bool (by rw [inI_idx, ← this]; simp), rfl⟩
    · go_wp2
      go_ret
      exact ⟨by have := hres.out; rw [drop_end h.len hlt] at this; exact ret_bool (by rw [inI_idx, ← this]; simp [idxF]), rfl⟩

set_option maxHeartbeats 400000 in
theorem Place_any (A : Option Addr) (n cap : Nat) (ns : List Int) (x : Int) (w : World) (h : IsI w A n cap ns) (hn : n ≤ 100000) :
    Calls Tryd.prog 52 #[.slice A n cap, .int .i64 x] w fun e w' => e = .returned (.int .i64 (placeI ns x)) ∧ w = w' := by
  go_enter Tryd.func52, Tryd.ntmps52
  go_wp2
  go_loop [5] (fun i => ∃ k : Nat, k ≤ n ∧ i = .int .i64 k ∧ Hid (idxF (fun y => y == x) k (ns.drop k) = idxF (fun y => y == x) 0 ns)) (fun i => n - (intOf i).toNat)
  case atStart => exact ⟨0, Nat.zero_le _, rfl, rfl⟩
  case round =>
    obtain ⟨k, hk, rfl, hres⟩ := hrel
    by_cases hlt : k < n
    · obtain ⟨y, hy⟩ := h.get hlt
      obtain ⟨b, off, rfl, hb, hwf, hc⟩ := h.at_ hy
      have hd := drop_get hy
      have Hd := Lib.hid hd
      clear hy hd
      cases ho : (y == x)
      all_goals
        have ho' : (x == y) = (y == x) := by rw [Bool.eq_iff_iff]; simp; exact ⟨Eq.symm, Eq.symm⟩
        rw [ho] at ho'
        have Ho := Lib.hid ho
        go_wp2
      · go_round
        case rel => exact ⟨k + 1, by omega, by go_num, by have := hres.out; rw [Hd.out, idxF, if_neg (by simp [Ho.out])] at this; exact this⟩
        case measure => simp [intOf]; omega
      · go_ret
        exact ⟨by have := hres.out; rw [Hd.out, idxF, if_pos (by simp [Ho.out])] at this; exact ret_int this, rfl⟩
    · go_wp2
      go_ret
      exact ⟨by have := hres.out; rw [drop_end h.len hlt] at this; exact ret_int (by rw [placeI, ← this]; rfl), rfl⟩




end Go.Proofs.YtekdcmplcjgonaaDoor

/- The walks that take a term apart. -/
namespace Go.Proofs.YtekdcmplcjgonaaDoor
open Go.RowKit

theorem infoCs : (Tryd.prog.info? 22).map (fun i => (i.zero, i.size, i.bytes)) = some (some (.slice none 0 0), 1, 24) := by kernel_rfl

/-- so many values, each a row of cells -/
def Rows_ (w : World) (vs : List Value) (ts : List (List C)) : Prop := vs.length = ts.length ∧ ∀ (i : Nat) (t : List C), ts[i]? = some t → ∃ A' n' cap', vs[i]? = some (Value.slice A' n' cap') ∧ IsC w A' n' cap' t
theorem Rows_.nil (w : World) : Rows_ w [] [] := ⟨rfl, by simp⟩
theorem Rows_.snoc {w : World} {vs : List Value} {ts : List (List C)} (h : Rows_ w vs ts) {A : Option Addr} {n cap : Nat} {t : List C} (ht : IsC w A n cap t) : Rows_ w (vs ++ [.slice A n cap]) (ts ++ [t]) := by
  refine ⟨by simp [h.1], fun i u hu => ?_⟩
  rw [List.getElem?_append] at hu
  split at hu
  · rename_i hi
    obtain ⟨A', n', c', h1, h2⟩ := h.2 i u hu
    exact ⟨A', n', c', by rw [List.getElem?_append_left (by rw [h.1]; exact hi)]; exact h1, h2⟩
  · rename_i hi
    have : i = ts.length := by
      have := (List.getElem?_eq_some_iff.1 hu).1
      simp at this
      omega
    subst this
    simp at hu
    subst hu
    exact ⟨A, n, cap, by rw [← h.1]; simp, ht⟩
theorem Rows_.cc {w w' : World} {vs : List Value} {ts : List (List C)} {A : Option Addr} {n cap : Nat} (h : Rows_ w vs ts) (hb : Below w.heap.size w w') (hs : Sl w' 1 A n cap vs) : IsCC w' A n cap ts := by
  have hl := hs.len
  refine ⟨by rw [← h.1]; omega, vs, hs, fun i t hi => ?_⟩
  obtain ⟨A', n', c', h1, h2⟩ := h.2 i t hi
  exact ⟨A', n', c', h1, h2.below hb⟩
theorem one_rows {w : World} {vs : List Value} {ts : List (List C)} (h : Rows_ w vs ts) : ∀ u ∈ vs, u.oneCell' = true := by
  intro u hu
  obtain ⟨i, hi, rfl⟩ := List.getElem_of_mem hu
  obtain ⟨A', n', c', h1, _⟩ := h.2 i (ts[i]'(by rw [← h.1]; exact hi)) (List.getElem?_eq_getElem _)
  rw [List.getElem?_eq_getElem hi] at h1
  injection h1 with h1
  rw [h1]
  rfl

theorem partsA_some {t : List C} {k at_ e : Nat} (h : endN t at_ = some e) : partsA t (k + 1) at_ = (t.drop at_).take (e - at_) :: partsA t k e := by simp [partsA, h]
theorem partsA_none {t : List C} {k at_ : Nat} (h : endN t at_ = none) : partsA t (k + 1) at_ = [] := by simp [partsA, h]
theorem right_skip {t : List C} (h : rightB t = true) : skip t 1 = some [] ∧ 1 ≤ t.length ∧ t.length ≤ 200 := by
  simp [rightB] at h
  obtain ⟨⟨h1, h2⟩, h3⟩ := h
  have := (endN_some.1 h3).1
  simp at this
  exact ⟨this, by omega, h2⟩
theorem right_cons {c : C} {cs : List C} (h : rightB (c :: cs) = true) : c.ok = true ∧ skip cs c.ar = some [] := by
  obtain ⟨h, _⟩ := right_skip h
  rw [skip_cons] at h
  split at h
  · rename_i ho
    exact ⟨ho, by simpa using h⟩
  · cases h
theorem skip_step {t : List C} {at_ j : Nat} (h : skip (t.drop at_) (j + 1) = some []) : ∃ e, endN t at_ = some e ∧ skip (t.drop e) j = some [] ∧ at_ < e ∧ e ≤ t.length := by
  rw [show j + 1 = 1 + j by omega, skip_add] at h
  cases hs : skip (t.drop at_) 1 with
  | none => rw [hs] at h; cases h
  | some r =>
    rw [hs] at h
    cases he : endN t at_ with
    | none => rw [endN_none] at he; rw [he] at hs; cases hs
    | some e =>
      obtain ⟨h1, h2, h3⟩ := endN_some.1 he
      rw [h1] at hs
      injection hs with hs
      exact ⟨e, rfl, by rw [hs]; exact h, h2, h3⟩

set_option maxHeartbeats 400000 in
theorem tParts_any (A : Option Addr) (n cap : Nat) (t : List C) (w : World) (h : IsC w A n cap t) (hr : rightB t = true) :
    Calls Tryd.prog 60 #[.slice A n cap] w (RetCC w (partsF t)) := by
  obtain ⟨hsk, hl1, hl2⟩ := right_skip hr
  have hl := h.len
  match t, hr, hl1 with
  | c :: cs, hr, _ =>
    obtain ⟨ho, hcs⟩ := right_cons hr
    have hc0 : (c :: cs)[0]? = some c := rfl
    obtain ⟨b, off, rfl, hbb, hwf, h0, h1, h2⟩ := h.at_ hc0
    simp only [Nat.zero_mul, Nat.add_zero] at h0 h1 h2
    have hn0 : ((n : Int) == 0) = false := by simp at hl ⊢; omega
    have hn1 : 0 < n := by simp at hl; omega
    have hn2 : n ≤ 200 := by omega
    have Hl := Lib.hid hl
    have Hcs := Lib.hid hcs
    clear hl hsk hcs hr hc0 hl2
    by_cases hk3 : c.kind = 3
    · have hbk : (c.kind != 3) = false := by simp [hk3]
      have har := ar_fun ho hk3
      have hpf : partsF (c :: cs) = partsA (c :: cs) c.ar 1 := by simp [partsF, hk3, C.ar]
      have Har := Lib.hid har
      have Hk3 := Lib.hid hk3
      have Ho := Lib.hid ho
      have Hpf := Lib.hid hpf
      clear har hk3 ho hpf
      go_enter Tryd.func60, Tryd.ntmps60
      go_wp2
      go_loopw [3, 4] (fun o p wr => ∃ (j q m c' : Nat) (Ao : Option Addr) (vs : List Value) (acc : List (List C)), p = .int .i64 q ∧ o = .slice Ao m c' ∧ 1 ≤ q ∧ q ≤ n ∧ m ≤ q ∧ wr.ownsRow w.heap.size 22 1 (.slice Ao m c') m vs ∧ Rows_ w vs acc ∧ Hid (skip ((c :: cs).drop q) j = some []) ∧ Hid (acc ++ partsA (c :: cs) j q = partsF (c :: cs)) ∧ Below w.heap.size w wr) (fun _ p _ => n - (intOf p).toNat)
      case atStart => exact ⟨c.ar, 1, 0, 0, none, [], [], rfl, rfl, by omega, by omega, by omega, World.ownsRow_nil _ _ _ _, Rows_.nil _, Hcs.out, Hpf.out.symm, Below.refl _ _⟩
      case round =>
        obtain ⟨j, q, m, c', Ao, vs, acc, rfl, rfl, hq1, hq2, hm, hown, hrows, hsk, hres, hb⟩ := hrel
        by_cases hlt : q < n
        · obtain ⟨j, rfl⟩ : ∃ i, j = i + 1 := by
            cases j with
            | zero => exfalso; have := hsk.out; rw [skip_zero] at this; injection this with this; have := congrArg List.length this; simp at this; have := Hl.out; simp at this; omega
            | succ j => exact ⟨j, rfl⟩
          obtain ⟨e, he, hs2, he1, he2⟩ := skip_step hsk.out
          have hend := tend_any (some ⟨b, off, none⟩) n cap (c :: cs) q wr (h.below hb) (by omega) (by omega)
          rw [endT_some he] at hend
          have hez : ((e : Int) == 0) = false := by simp; omega
          have hen : e ≤ n := by rw [← Hl.out]; exact he2
          have hcap := h.sl.hcap
          have hqc : ¬ cap = q := by omega
          have Hend := Lib.hid hend
          have He := Lib.hid he
          have Hs2 := Lib.hid hs2
          clear hend he hs2 he2
          go_wp2_with (first
            | (go_at_call 82; go_must (refine Hend.out.mono ?_); rintro e w1 ⟨rfl, hb1⟩; replace hb := hb.trans (hb1.mono hb.size); replace hown := own_below hown hb1)
            | (at_builtin; go_must (refine wpList_append_sl rfl (.tmp 25) (.tmp 30) 62 rfl w.heap.size 22 Tryd.underlying62 infoCs rfl (by omega) rfl (hown.alloc _) rfl (Sl.lit _ _ [_] 22 1 1 (by simp) rfl (by simp [maxLen])) (one1 rfl) (by omega) (by omega) (by have := hb.size; simp; omega) ?_); intro A' cap' w2 hown1 hb2 _ _))
          have hb3 : Below w.heap.size w w2 := Below.trans (by repeat (first | assumption | exact Below.refl _ _ | refine Below.drew ?_ | refine below_drewN ?_ _ | refine Below.alloc ?_ ?_ _ | refine Below.setCell ?_ ?_ _ | (apply Below.size; assumption) | (simp; done) | (simp; omega) | (have hz := hb.size; simp; omega) | (have hz := hb.size; omega) | omega)) hb2
          go_roundw
          case rel =>
            refine ⟨j, e, m + 1, cap', A', _, acc ++ [((c :: cs).drop q).take (e - q)], rfl, rfl, by omega, hen, by omega, hown1, hrows.snoc (h.cut' (by omega) hen hqc), Hs2.out, Lib.hid ?_, hb3⟩
            have := hres.out
            rw [partsA_some He.out] at this
            rw [← this]
            simp
          case measure => simp [intOf]; omega
        · go_wp2
          go_ret
          have hj : j = 0 := by
            have := hsk.out
            rw [drop_end Hl.out hlt] at this
            cases j with
            | zero => rfl
            | succ j => rw [skip_nil _ (by omega)] at this; cases this
          subst hj
          have := hres.out
          simp only [partsA, List.append_nil] at this
          rw [← this]
          exact ⟨_, _, _, rfl, hrows.cc hb (Sl.own hown (by omega)), hb⟩
    · have hbk : (c.kind != 3) = true := by simp [hk3]
      have hpf : partsF (c :: cs) = [] := by simp [partsF, hk3]
      have Hpf := Lib.hid hpf
      clear hpf
      go_enter Tryd.func60, Tryd.ntmps60
      go_wp2
      go_ret
      rw [Hpf.out]
      exact ⟨_, _, _, rfl, (Rows_.nil w).cc (Below.refl _ _) ⟨rfl, by simp, by simp [maxLen], fun h => absurd h (by omega)⟩, Below.refl _ _⟩

set_option maxHeartbeats 400000 in
theorem rParts_any (A : Option Addr) (n cap : Nat) (t : List C) (w : World) (h : IsC w A n cap t) (hr : rightB t = true) :
    Calls Tryd.prog 43 #[.slice A n cap] w (RetCC w (partsF t)) := by
  obtain ⟨hsk, hl1, hl2⟩ := right_skip hr
  have hl := h.len
  match t, hr, hl1 with
  | c :: cs, hr, _ =>
    obtain ⟨ho, hcs⟩ := right_cons hr
    have hc0 : (c :: cs)[0]? = some c := rfl
    obtain ⟨b, off, rfl, hbb, hwf, h0, h1, h2⟩ := h.at_ hc0
    simp only [Nat.zero_mul, Nat.add_zero] at h0 h1 h2
    have hn0 : ((n : Int) == 0) = false := by simp at hl ⊢; omega
    have hn1 : 0 < n := by simp at hl; omega
    have hn2 : n ≤ 200 := by omega
    have Hl := Lib.hid hl
    have Hcs := Lib.hid hcs
    clear hl hsk hcs hr hc0 hl2
    by_cases hk3 : c.kind = 3
    · have hbk : (c.kind != 3) = false := by simp [hk3]
      have har := ar_fun ho hk3
      have hpf : partsF (c :: cs) = partsA (c :: cs) c.ar 1 := by simp [partsF, hk3, C.ar]
      have hn6 := ok_fun ho hk3
      obtain ⟨hc0, hc6⟩ := hn6
      have Har := Lib.hid har
      have Hk3 := Lib.hid hk3
      have Ho := Lib.hid ho
      have Hpf := Lib.hid hpf
      clear har hk3 ho hpf
      go_enter Tryd.func43, Tryd.ntmps43
      go_wp2
      go_loopw [3, 4, 5] (fun o p ii wr => ∃ (j q m i c' : Nat) (Ao : Option Addr) (vs : List Value) (acc : List (List C)), p = .int .i64 q ∧ ii = .int .i64 i ∧ i + j = c.ar ∧ o = .slice Ao m c' ∧ 1 ≤ q ∧ q ≤ n ∧ m ≤ q ∧ wr.ownsRow w.heap.size 22 1 (.slice Ao m c') m vs ∧ Rows_ w vs acc ∧ Hid (skip ((c :: cs).drop q) j = some []) ∧ Hid (acc ++ partsA (c :: cs) j q = partsF (c :: cs)) ∧ Below w.heap.size w wr) (fun _ _ i _ => 6 - (intOf i).toNat)
      case atStart => exact ⟨c.ar, 1, 0, 0, 0, _, [], [], rfl, rfl, by omega, rfl, by omega, by omega, by omega, World.ownsRow_lit w #[] 0 (Nat.le_refl _) (by simp [maxLen]) rfl, Rows_.nil _, Hcs.out, Hpf.out.symm, (Below.refl _ _).alloc (Nat.le_refl _) _⟩
      case round =>
        obtain ⟨j, q, m, i, c', Ao, vs, acc, rfl, rfl, hij, rfl, hq1, hq2, hm, hown, hrows, hsk, hres, hb⟩ := hrel
        have Hij := Lib.hid hij
        clear hij
        obtain ⟨hc, hf⟩ := bcell hb
        cases j with
        | succ j =>
          have hlt : (i : Int) < c.n := by have := Har.out; have := Hij.out; omega
          have hi6 : i < 6 := by omega
          obtain ⟨e, he, hs2, he1, he2⟩ := skip_step hsk.out
          have hend := rEnd_any (some ⟨b, off, none⟩) n cap (c :: cs) q wr (h.below hb) (by omega) (by omega)
          rw [endR_some he] at hend
          have hez : ¬ (e : Int) < 0 := by omega
          have hen : e ≤ n := by rw [← Hl.out]; exact he2
          have hcap := h.sl.hcap
          have hqc : ¬ cap = q := by omega
          have Hend := Lib.hid hend
          have He := Lib.hid he
          have Hs2 := Lib.hid hs2
          clear hend he hs2 he2
          go_wp2_with (first
            | (go_at_call 58; go_must (refine Hend.out.mono ?_); rintro e w1 ⟨rfl, hb1⟩; replace hb := hb.trans (hb1.mono hb.size); replace hown := own_below hown hb1)
            | (at_builtin; go_must (refine wpList_append_sl rfl (.tmp 33) (.tmp 38) 62 rfl w.heap.size 22 Tryd.underlying62 infoCs rfl (by omega) rfl (hown.alloc _) rfl (Sl.lit _ _ [_] 22 1 1 (by simp) rfl (by simp [maxLen])) (one1 rfl) (by omega) (by omega) (by have := hb.size; simp; omega) ?_); intro A' cap' w2 hown1 hb2 _ _))
          have hb3 : Below w.heap.size w w2 := Below.trans (by repeat (first | assumption | exact Below.refl _ _ | refine Below.drew ?_ | refine below_drewN ?_ _ | refine Below.alloc ?_ ?_ _ | refine Below.setCell ?_ ?_ _ | (apply Below.size; assumption) | (simp; done) | (simp; omega) | (have hz := hb.size; simp; omega) | (have hz := hb.size; omega) | omega)) hb2
          go_roundw
          case rel =>
            refine ⟨j, e, m + 1, i + 1, cap', A', _, acc ++ [((c :: cs).drop q).take (e - q)], rfl, by go_num, by have := Hij.out; omega, rfl, by omega, hen, by omega, hown1, hrows.snoc (h.cut' (by omega) hen hqc), Hs2.out, Lib.hid ?_, hb3⟩
            have := hres.out
            rw [partsA_some He.out] at this
            rw [← this]
            simp
          case measure => simp [intOf]; omega
        | zero =>
          have hlt : ¬ (i : Int) < c.n := by have := Har.out; have := Hij.out; omega
          go_wp2
          go_ret
          have := hres.out
          simp only [partsA, List.append_nil] at this
          rw [← this]
          exact ⟨_, _, _, rfl, hrows.cc hb (Sl.own hown (by omega)), hb⟩
    · have hbk : (c.kind != 3) = true := by simp [hk3]
      have hpf : partsF (c :: cs) = [] := by simp [partsF, hk3]
      have Hpf := Lib.hid hpf
      clear hpf
      go_enter Tryd.func43, Tryd.ntmps43
      go_wp2
      go_ret
      rw [Hpf.out]
      exact ⟨_, _, _, rfl, (Rows_.nil w).cc (by repeat (first | assumption | exact Below.refl _ _ | refine Below.drew ?_ | refine below_drewN ?_ _ | refine Below.alloc ?_ ?_ _ | refine Below.setCell ?_ ?_ _ | (apply Below.size; assumption) | (simp; done) | (simp; omega) | (have hz := hb.size; simp; omega) | (have hz := hb.size; omega) | omega)) ⟨rfl, by simp, by simp [maxLen], fun h => absurd h (by omega)⟩, (by repeat (first | assumption | exact Below.refl _ _ | refine Below.drew ?_ | refine below_drewN ?_ _ | refine Below.alloc ?_ ?_ _ | refine Below.setCell ?_ ?_ _ | (apply Below.size; assumption) | (simp; done) | (simp; omega) | (have hz := hb.size; simp; omega) | (have hz := hb.size; omega) | omega))⟩
end Go.Proofs.YtekdcmplcjgonaaDoor

/- The walks that take a term apart, once more: the parts are read in the world in which the term is. -/
namespace Go.Proofs.YtekdcmplcjgonaaDoor
open Go.RowKit

/-- a new row of parts, each of which is read in W -/
def RetPW (W w : World) (ts : List (List C)) (e : Ending) (w' : World) : Prop :=
  ∃ A n cap vs, e = .returned (.slice A n cap) ∧ ts.length = n ∧ w'.ownsRow w.heap.size 22 1 (.slice A n cap) n vs ∧ Rows_ W vs ts ∧ Below w.heap.size w w'

set_option maxHeartbeats 400000 in
theorem tParts_w (W : World) (A : Option Addr) (n cap : Nat) (t : List C) (w : World) (hW : IsC W A n cap t) (hbW : Below W.heap.size W w) (hr : rightB t = true) :
    Calls Tryd.prog 60 #[.slice A n cap] w (RetPW W w (partsF t)) := by
  have h := hW.below hbW
  obtain ⟨hsk, hl1, hl2⟩ := right_skip hr
  have hl := h.len
  match t, hr, hl1 with
  | c :: cs, hr, _ =>
    obtain ⟨ho, hcs⟩ := right_cons hr
    have hc0 : (c :: cs)[0]? = some c := rfl
    obtain ⟨b, off, rfl, hbb, hwf, h0, h1, h2⟩ := h.at_ hc0
    simp only [Nat.zero_mul, Nat.add_zero] at h0 h1 h2
    have hn0 : ((n : Int) == 0) = false := by simp at hl ⊢; omega
    have hn1 : 0 < n := by simp at hl; omega
    have hn2 : n ≤ 200 := by omega
    have Hl := Lib.hid hl
    have Hcs := Lib.hid hcs
    clear hl hsk hcs hr hc0 hl2
    by_cases hk3 : c.kind = 3
    · have hbk : (c.kind != 3) = false := by simp [hk3]
      have har := ar_fun ho hk3
      have hpf : partsF (c :: cs) = partsA (c :: cs) c.ar 1 := by simp [partsF, hk3, C.ar]
      have Har := Lib.hid har
      have Hk3 := Lib.hid hk3
      have Ho := Lib.hid ho
      have Hpf := Lib.hid hpf
      clear har hk3 ho hpf
      go_enter Tryd.func60, Tryd.ntmps60
      go_wp2
      go_loopw [3, 4] (fun o p wr => ∃ (j q m c' : Nat) (Ao : Option Addr) (vs : List Value) (acc : List (List C)), p = .int .i64 q ∧ o = .slice Ao m c' ∧ 1 ≤ q ∧ q ≤ n ∧ m ≤ q ∧ wr.ownsRow w.heap.size 22 1 (.slice Ao m c') m vs ∧ Rows_ W vs acc ∧ Hid (skip ((c :: cs).drop q) j = some []) ∧ Hid (acc ++ partsA (c :: cs) j q = partsF (c :: cs)) ∧ Below w.heap.size w wr) (fun _ p _ => n - (intOf p).toNat)
      case atStart => exact ⟨c.ar, 1, 0, 0, none, [], [], rfl, rfl, by omega, by omega, by omega, World.ownsRow_nil _ _ _ _, Rows_.nil _, Hcs.out, Hpf.out.symm, Below.refl _ _⟩
      case round =>
        obtain ⟨j, q, m, c', Ao, vs, acc, rfl, rfl, hq1, hq2, hm, hown, hrows, hsk, hres, hb⟩ := hrel
        by_cases hlt : q < n
        · obtain ⟨j, rfl⟩ : ∃ i, j = i + 1 := by
            cases j with
            | zero => exfalso; have := hsk.out; rw [skip_zero] at this; injection this with this; have := congrArg List.length this; simp at this; have := Hl.out; simp at this; omega
            | succ j => exact ⟨j, rfl⟩
          obtain ⟨e, he, hs2, he1, he2⟩ := skip_step hsk.out
          have hend := tend_any (some ⟨b, off, none⟩) n cap (c :: cs) q wr (h.below hb) (by omega) (by omega)
          rw [endT_some he] at hend
          have hez : ((e : Int) == 0) = false := by simp; omega
          have hen : e ≤ n := by rw [← Hl.out]; exact he2
          have hcap := h.sl.hcap
          have hqc : ¬ cap = q := by omega
          have Hend := Lib.hid hend
          have He := Lib.hid he
          have Hs2 := Lib.hid hs2
          clear hend he hs2 he2
          go_wp2_with (first
            | (go_at_call 82; go_must (refine Hend.out.mono ?_); rintro e w1 ⟨rfl, hb1⟩; replace hb := hb.trans (hb1.mono hb.size); replace hown := own_below hown hb1)
            | (at_builtin; go_must (refine wpList_append_sl rfl (.tmp 25) (.tmp 30) 62 rfl w.heap.size 22 Tryd.underlying62 infoCs rfl (by omega) rfl (hown.alloc _) rfl (Sl.lit _ _ [_] 22 1 1 (by simp) rfl (by simp [maxLen])) (one1 rfl) (by omega) (by omega) (by have := hb.size; simp; omega) ?_); intro A' cap' w2 hown1 hb2 _ _))
          have hb3 : Below w.heap.size w w2 := Below.trans (by repeat (first | assumption | exact Below.refl _ _ | refine Below.drew ?_ | refine below_drewN ?_ _ | refine Below.alloc ?_ ?_ _ | refine Below.setCell ?_ ?_ _ | (apply Below.size; assumption) | (simp; done) | (simp; omega) | (have hz := hb.size; simp; omega) | (have hz := hb.size; omega) | omega)) hb2
          go_roundw
          case rel =>
            refine ⟨j, e, m + 1, cap', A', _, acc ++ [((c :: cs).drop q).take (e - q)], rfl, rfl, by omega, hen, by omega, hown1, hrows.snoc (hW.cut' (by omega) hen hqc), Hs2.out, Lib.hid ?_, hb3⟩
            have := hres.out
            rw [partsA_some He.out] at this
            rw [← this]
            simp
          case measure => simp [intOf]; omega
        · go_wp2
          go_ret
          have hj : j = 0 := by
            have := hsk.out
            rw [drop_end Hl.out hlt] at this
            cases j with
            | zero => rfl
            | succ j => rw [skip_nil _ (by omega)] at this; cases this
          subst hj
          have := hres.out
          simp only [partsA, List.append_nil] at this
          rw [← this]
          exact ⟨_, _, _, _, rfl, by rw [← hrows.1]; simpa using hown.1, hown, hrows, hb⟩
    · have hbk : (c.kind != 3) = true := by simp [hk3]
      have hpf : partsF (c :: cs) = [] := by simp [partsF, hk3]
      have Hpf := Lib.hid hpf
      clear hpf
      go_enter Tryd.func60, Tryd.ntmps60
      go_wp2
      go_ret
      rw [Hpf.out]
      exact ⟨_, _, _, [], rfl, rfl, World.ownsRow_nil _ _ _ _, Rows_.nil W, Below.refl _ _⟩

set_option maxHeartbeats 400000 in
theorem rParts_w (W : World) (A : Option Addr) (n cap : Nat) (t : List C) (w : World) (hW : IsC W A n cap t) (hbW : Below W.heap.size W w) (hr : rightB t = true) :
    Calls Tryd.prog 43 #[.slice A n cap] w (RetPW W w (partsF t)) := by
  have h := hW.below hbW
  obtain ⟨hsk, hl1, hl2⟩ := right_skip hr
  have hl := h.len
  match t, hr, hl1 with
  | c :: cs, hr, _ =>
    obtain ⟨ho, hcs⟩ := right_cons hr
    have hc0 : (c :: cs)[0]? = some c := rfl
    obtain ⟨b, off, rfl, hbb, hwf, h0, h1, h2⟩ := h.at_ hc0
    simp only [Nat.zero_mul, Nat.add_zero] at h0 h1 h2
    have hn0 : ((n : Int) == 0) = false := by simp at hl ⊢; omega
    have hn1 : 0 < n := by simp at hl; omega
    have hn2 : n ≤ 200 := by omega
    have Hl := Lib.hid hl
    have Hcs := Lib.hid hcs
    clear hl hsk hcs hr hc0 hl2
    by_cases hk3 : c.kind = 3
    · have hbk : (c.kind != 3) = false := by simp [hk3]
      have har := ar_fun ho hk3
      have hpf : partsF (c :: cs) = partsA (c :: cs) c.ar 1 := by simp [partsF, hk3, C.ar]
      have hn6 := ok_fun ho hk3
      obtain ⟨hc0, hc6⟩ := hn6
      have Har := Lib.hid har
      have Hk3 := Lib.hid hk3
      have Ho := Lib.hid ho
      have Hpf := Lib.hid hpf
      clear har hk3 ho hpf
      go_enter Tryd.func43, Tryd.ntmps43
      go_wp2
      go_loopw [3, 4, 5] (fun o p ii wr => ∃ (j q m i c' : Nat) (Ao : Option Addr) (vs : List Value) (acc : List (List C)), p = .int .i64 q ∧ ii = .int .i64 i ∧ i + j = c.ar ∧ o = .slice Ao m c' ∧ 1 ≤ q ∧ q ≤ n ∧ m ≤ q ∧ wr.ownsRow w.heap.size 22 1 (.slice Ao m c') m vs ∧ Rows_ W vs acc ∧ Hid (skip ((c :: cs).drop q) j = some []) ∧ Hid (acc ++ partsA (c :: cs) j q = partsF (c :: cs)) ∧ Below w.heap.size w wr) (fun _ _ i _ => 6 - (intOf i).toNat)
      case atStart => exact ⟨c.ar, 1, 0, 0, 0, _, [], [], rfl, rfl, by omega, rfl, by omega, by omega, by omega, World.ownsRow_lit w #[] 0 (Nat.le_refl _) (by simp [maxLen]) rfl, Rows_.nil _, Hcs.out, Hpf.out.symm, (Below.refl _ _).alloc (Nat.le_refl _) _⟩
      case round =>
        obtain ⟨j, q, m, i, c', Ao, vs, acc, rfl, rfl, hij, rfl, hq1, hq2, hm, hown, hrows, hsk, hres, hb⟩ := hrel
        have Hij := Lib.hid hij
        clear hij
        obtain ⟨hc, hf⟩ := bcell hb
        cases j with
        | succ j =>
          have hlt : (i : Int) < c.n := by have := Har.out; have := Hij.out; omega
          have hi6 : i < 6 := by omega
          obtain ⟨e, he, hs2, he1, he2⟩ := skip_step hsk.out
          have hend := rEnd_any (some ⟨b, off, none⟩) n cap (c :: cs) q wr (h.below hb) (by omega) (by omega)
          rw [endR_some he] at hend
          have hez : ¬ (e : Int) < 0 := by omega
          have hen : e ≤ n := by rw [← Hl.out]; exact he2
          have hcap := h.sl.hcap
          have hqc : ¬ cap = q := by omega
          have Hend := Lib.hid hend
          have He := Lib.hid he
          have Hs2 := Lib.hid hs2
          clear hend he hs2 he2
          go_wp2_with (first
            | (go_at_call 58; go_must (refine Hend.out.mono ?_); rintro e w1 ⟨rfl, hb1⟩; replace hb := hb.trans (hb1.mono hb.size); replace hown := own_below hown hb1)
            | (at_builtin; go_must (refine wpList_append_sl rfl (.tmp 33) (.tmp 38) 62 rfl w.heap.size 22 Tryd.underlying62 infoCs rfl (by omega) rfl (hown.alloc _) rfl (Sl.lit _ _ [_] 22 1 1 (by simp) rfl (by simp [maxLen])) (one1 rfl) (by omega) (by omega) (by have := hb.size; simp; omega) ?_); intro A' cap' w2 hown1 hb2 _ _))
          have hb3 : Below w.heap.size w w2 := Below.trans (by repeat (first | assumption | exact Below.refl _ _ | refine Below.drew ?_ | refine below_drewN ?_ _ | refine Below.alloc ?_ ?_ _ | refine Below.setCell ?_ ?_ _ | (apply Below.size; assumption) | (simp; done) | (simp; omega) | (have hz := hb.size; simp; omega) | (have hz := hb.size; omega) | omega)) hb2
          go_roundw
          case rel =>
            refine ⟨j, e, m + 1, i + 1, cap', A', _, acc ++ [((c :: cs).drop q).take (e - q)], rfl, by go_num, by have := Hij.out; omega, rfl, by omega, hen, by omega, hown1, hrows.snoc (hW.cut' (by omega) hen hqc), Hs2.out, Lib.hid ?_, hb3⟩
            have := hres.out
            rw [partsA_some He.out] at this
            rw [← this]
            simp
          case measure => simp [intOf]; omega
        | zero =>
          have hlt : ¬ (i : Int) < c.n := by have := Har.out; have := Hij.out; omega
          go_wp2
          go_ret
          have := hres.out
          simp only [partsA, List.append_nil] at this
          rw [← this]
          exact ⟨_, _, _, _, rfl, by rw [← hrows.1]; simpa using hown.1, hown, hrows, hb⟩
    · have hbk : (c.kind != 3) = true := by simp [hk3]
      have hpf : partsF (c :: cs) = [] := by simp [partsF, hk3]
      have Hpf := Lib.hid hpf
      clear hpf
      go_enter Tryd.func43, Tryd.ntmps43
      go_wp2
      go_ret
      rw [Hpf.out]
      exact ⟨_, _, _, [], rfl, rfl, World.ownsRow_lit w #[] 0 (Nat.le_refl _) (by simp [maxLen]) rfl, Rows_.nil W, (by repeat (first | assumption | exact Below.refl _ _ | refine Below.drew ?_ | refine below_drewN ?_ _ | refine Below.alloc ?_ ?_ _ | refine Below.setCell ?_ ?_ _ | (apply Below.size; assumption) | (simp; done) | (simp; omega) | (have hz := hb.size; simp; omega) | (have hz := hb.size; omega) | omega))⟩
end Go.Proofs.YtekdcmplcjgonaaDoor

/- The walks that gather a term's variables, and ask whether it has any. -/
namespace Go.Proofs.YtekdcmplcjgonaaDoor
open Go.RowKit

theorem infoI : (Tryd.prog.info? 3).map (fun i => (i.zero, i.size, i.bytes)) = some (some (.int .i64 0), 1, 8) := by kernel_rfl
theorem varsA_cons (acc : List Int) (c : C) (cs : List C) : varsA acc (c :: cs) = if c.kind = 1 ∧ inI acc c.n = false then varsA (acc ++ [c.n]) cs else varsA acc cs := rfl


set_option maxHeartbeats 400000 in
theorem rVars_any (A : Option Addr) (n cap : Nat) (t : List C) (w : World) (h : IsC w A n cap t) (hn : n ≤ 100000) :
    Calls Tryd.prog 26 #[.slice A n cap] w (RetI w (varsF t)) := by
  go_enter Tryd.func26, Tryd.ntmps26
  go_wp2
  go_loopw [3, 4] (fun o i wr => ∃ (k m c' : Nat) (Ao : Option Addr) (acc : List Int), k ≤ n ∧ i = .int .i64 k ∧ o = .slice Ao m c' ∧ m ≤ k ∧ wr.ownsRow w.heap.size 3 1 (.slice Ao m c') m (acc.map (Value.int .i64)) ∧ (∀ x ∈ acc, i64 x) ∧ Hid (varsA acc (t.drop k) = varsF t) ∧ Below w.heap.size w wr) (fun _ i _ => n - (intOf i).toNat)
  case atStart => exact ⟨0, 0, 0, _, [], Nat.zero_le _, rfl, rfl, Nat.le_refl _, World.ownsRow_lit w #[] 0 (Nat.le_refl _) (by simp [maxLen]) rfl, by simp, rfl, (Below.refl _ _).alloc (Nat.le_refl _) _⟩
  case round =>
    obtain ⟨k, m, c', Ao, acc, hk, rfl, rfl, hm, hown, hwa, hres, hb⟩ := hrel
    have hacc : IsI wr Ao m c' acc := ⟨Sl.own hown (by omega), hwa⟩
    by_cases hlt : k < n
    · obtain ⟨x, hxk⟩ := h.get hlt
      obtain ⟨b, off, rfl, hbb, hwf, h0, h1, h2⟩ := h.at_ hxk
      have hd := drop_get hxk
      have Hd := Lib.hid hd
      clear hxk hd
      obtain ⟨hc, hf⟩ := bcell hb
      by_cases hk1 : x.kind = 1
      · have hbk : (x.kind == 1) = true := by simp [hk1]
        have Hk1 := Lib.hid hk1
        clear hk1
        have hcon := In_any Ao m c' acc x.n
        cases hin : inI acc x.n
        · rw [hin] at hcon
          have Hcon := Lib.hid hcon
          have Hin := Lib.hid hin
          clear hcon hin
          go_wp2_with (first
            | (go_at_call 51; go_must (refine (Hcon.out _ (hacc.below (by repeat (first | assumption | exact Below.refl _ _ | refine Below.drew ?_ | refine below_drewN ?_ _ | refine Below.alloc ?_ ?_ _ | refine Below.setCell ?_ ?_ _ | (apply Below.size; assumption) | (simp; done) | (simp; omega) | (have hz := hb.size; simp; omega) | (have hz := hb.size; omega) | omega))) (by omega)).mono ?_); rintro e w1 ⟨rfl, rfl⟩)
            | (at_builtin; go_must (refine wpList_append_sl rfl (.tmp 28) (.tmp 34) 43 rfl w.heap.size 3 Tryd.underlying43 infoI rfl (by omega) rfl (hown.alloc _) rfl (Sl.lit _ _ [.int .i64 x.n] 3 1 1 (by simp) rfl (by simp [maxLen])) (one1 rfl) (by omega) (by omega) (by have := hb.size; simp; omega) ?_); intro A' cap' w1 hown1 hb1 _ _))
          have hb2 : Below w.heap.size w w1 := Below.trans (by repeat (first | assumption | exact Below.refl _ _ | refine Below.drew ?_ | refine below_drewN ?_ _ | refine Below.alloc ?_ ?_ _ | refine Below.setCell ?_ ?_ _ | (apply Below.size; assumption) | (simp; done) | (simp; omega) | (have hz := hb.size; simp; omega) | (have hz := hb.size; omega) | omega)) hb1
          go_roundw
          case rel =>
            refine ⟨k + 1, m + 1, cap', A', acc ++ [x.n], by omega, by go_num, rfl, by omega, by simpa using hown1, ?_, Lib.hid ?_, hb2⟩
            · intro y hy
              rcases List.mem_append.1 hy with hy | hy
              · exact hwa y hy
              · simp at hy; subst hy; exact hwf.n
            · have := hres.out
              rw [Hd.out, varsA_cons, if_pos ⟨Hk1.out, Hin.out⟩] at this
              exact this
          case measure => simp [intOf]; omega
        · rw [hin] at hcon
          have Hcon := Lib.hid hcon
          have Hin := Lib.hid hin
          clear hcon hin
          go_wp2_with (first
            | (go_at_call 51; go_must (refine (Hcon.out _ (hacc.below (by repeat (first | assumption | exact Below.refl _ _ | refine Below.drew ?_ | refine below_drewN ?_ _ | refine Below.alloc ?_ ?_ _ | refine Below.setCell ?_ ?_ _ | (apply Below.size; assumption) | (simp; done) | (simp; omega) | (have hz := hb.size; simp; omega) | (have hz := hb.size; omega) | omega))) (by omega)).mono ?_); rintro e w1 ⟨rfl, rfl⟩))
          go_roundw
          case rel =>
            refine ⟨k + 1, m, c', Ao, acc, by omega, by go_num, rfl, by omega, hown, hwa, Lib.hid ?_, (by repeat (first | assumption | exact Below.refl _ _ | refine Below.drew ?_ | refine below_drewN ?_ _ | refine Below.alloc ?_ ?_ _ | refine Below.setCell ?_ ?_ _ | (apply Below.size; assumption) | (simp; done) | (simp; omega) | (have hz := hb.size; simp; omega) | (have hz := hb.size; omega) | omega))⟩
            have := hres.out
            rw [Hd.out, varsA_cons, if_neg (by simp [Hin.out])] at this
            exact this
          case measure => simp [intOf]; omega
      · have hbk : (x.kind == 1) = false := by simp [hk1]
        have Hk1 := Lib.hid hk1
        clear hk1
        go_wp2
        go_roundw
        case rel =>
          refine ⟨k + 1, m, c', Ao, acc, by omega, by go_num, rfl, by omega, hown, hwa, Lib.hid ?_, (by repeat (first | assumption | exact Below.refl _ _ | refine Below.drew ?_ | refine below_drewN ?_ _ | refine Below.alloc ?_ ?_ _ | refine Below.setCell ?_ ?_ _ | (apply Below.size; assumption) | (simp; done) | (simp; omega) | (have hz := hb.size; simp; omega) | (have hz := hb.size; omega) | omega))⟩
          have := hres.out
          rw [Hd.out, varsA_cons, if_neg (by simp [Hk1.out])] at this
          exact this
        case measure => simp [intOf]; omega
    · go_wp2
      go_ret
      exact ⟨_, _, _, rfl, by have := hres.out; rw [drop_end h.len hlt] at this; rw [← this]; exact hacc, hb⟩






end Go.Proofs.YtekdcmplcjgonaaDoor

/- The walks that turn a term's variables into others. -/
namespace Go.Proofs.YtekdcmplcjgonaaDoor
open Go.RowKit

theorem infoC : (Tryd.prog.info? 66).map (fun i => (i.zero, i.size, i.bytes)) = some (some (.agg #[.int .i64 0, .string ⟨#[]⟩, .int .i64 0]), 3, 32) := by kernel_rfl
/-- a row of cells that the call owns -/
def RetOwn (w : World) (cs : List C) (e : Ending) (w' : World) : Prop := ∃ A cap, e = .returned (.slice A cs.length cap) ∧ w'.ownsRow w.heap.size 66 3 (.slice A cs.length cap) cs.length (flatC cs) ∧ Below w.heap.size w w'

theorem flatC_set (l : List C) (k : Nat) (x : C) (v : Int) (h : l[k]? = some x) : (flatC l).set (k * 3 + 2) (.int .i64 v) = flatC (l.set k { x with n := v }) := by
  induction l generalizing k with
  | nil => simp at h
  | cons d l ih =>
    cases k with
    | zero => simp at h; subst h; simp [flatC, C.flat]
    | succ k =>
      have := ih k (by simpa using h)
      rw [Nat.succ_mul]
      simp [flatC, C.flat] at this ⊢
      exact this
theorem turn_step (f : Int → Int) {t : List C} {k : Nat} {x : C} (hx : t[k]? = some x) (hk : x.kind = 1) :
    (flatC (turnF f (t.take k) ++ t.drop k)).set (k * 3 + 2) (.int .i64 (f x.n)) = flatC (turnF f (t.take (k + 1)) ++ t.drop (k + 1)) := by
  obtain ⟨hl, he⟩ := List.getElem?_eq_some_iff.1 hx
  have hlen : (turnF f (t.take k)).length = k := by simp [turnF]; omega
  rw [flatC_set _ k x]
  · congr 1
    rw [List.set_append_right _ _ (by omega), hlen, Nat.sub_self, drop_get hx, List.take_succ_eq_append_getElem hl, he]
    simp [turnF, hk]
  · rw [List.getElem?_append_right (by omega), hlen, Nat.sub_self, drop_get hx]
    rfl
theorem turn_keep (f : Int → Int) {t : List C} {k : Nat} {x : C} (hx : t[k]? = some x) (hk : x.kind ≠ 1) :
    turnF f (t.take k) ++ t.drop k = turnF f (t.take (k + 1)) ++ t.drop (k + 1) := by
  obtain ⟨hl, he⟩ := List.getElem?_eq_some_iff.1 hx
  rw [drop_get hx, List.take_succ_eq_append_getElem hl, he]
  simp [turnF, hk]

theorem turn_wf {f : Int → Int} (hf : ∀ x, i64 (f x)) {t : List C} (h : ∀ c ∈ t, c.wf) : ∀ c ∈ turnF f t, c.wf := by
  intro c hc
  obtain ⟨d, hd, rfl⟩ := List.mem_map.1 hc
  have := h d hd
  split
  · exact ⟨this.kind, hf _, this.name⟩
  · exact this
theorem wrap64_i64 (n : Int) : i64 (wrap64 n) := by unfold i64 wrap64; omega
theorem place_i64 (ns : List Int) (x : Int) (h : ns.length ≤ 100000) : i64 (placeI ns x) := by
  have := idxF_le (fun y => y == x) ns 0
  unfold i64 placeI
  omega





theorem IsC.nil0 (w : World) : IsC w none 0 0 [] := IsC.nil w none 0 (by simp [maxLen])
theorem shiftF_yes {t : List C} {v : Int} (h : rightB (turnF (fun n : Int => wrap64 (n + v)) t) = true) : shiftF t v = turnF (fun n : Int => wrap64 (n + v)) t := by simp [shiftF, h]
theorem shiftF_no {t : List C} {v : Int} (h : rightB (turnF (fun n : Int => wrap64 (n + v)) t) = false) : shiftF t v = [] := by simp [shiftF, h]


theorem varsA_len : ∀ (cs : List C) (acc : List Int), (varsA acc cs).length ≤ acc.length + cs.length
  | [], acc => by simp [varsA]
  | c :: cs, acc => by
    rw [varsA_cons]
    split
    · have := varsA_len cs (acc ++ [c.n]); simp at this ⊢; omega
    · have := varsA_len cs acc; simp; omega
theorem varsF_len (t : List C) : (varsF t).length ≤ t.length := by have := varsA_len t []; simpa [varsF] using this



set_option maxHeartbeats 800000 in
theorem rNumber_any (A : Option Addr) (n cap : Nat) (t : List C) (w : World) (h : IsC w A n cap t) (hn : n ≤ 100000) :
    Calls Tryd.prog 28 #[.slice A n cap] w (RetC w (numberF t)) := by
  have hl := h.len
  have Hl := Lib.hid hl
  clear hl
  have hvl := varsF_len t
  rw [h.len] at hvl
  go_enter Tryd.func28, Tryd.ntmps28
  go_wp2_with (first
    | (go_at_call 26; go_must (refine (rVars_any A n cap t _ h hn).mono ?_); rintro e w1 ⟨A1, n1, c1, rfl, hv1, hbv⟩; have hn1 : n1 ≤ 100000 := by rw [← hv1.len]; omega)
    | (at_builtin; go_must (refine wpList_append_sl rfl (.tmp 8) (.tmp 9) 22 rfl w1.heap.size 66 Tryd.underlying22 infoC rfl (by omega) rfl (World.ownsRow_lit _ #[] 0 (Nat.le_refl _) (by simp [maxLen]) rfl) rfl (h.sl.below (by exact hbv.alloc hbv.size _)) (oneC t) (by omega) (by omega) (by simp) ?_); intro A0 cap0 w0 hown0 hb0 _ _; replace hown0 : w0.ownsRow w1.heap.size 66 3 (.slice A0 n cap0) n (flatC t) := by simpa using hown0))
  have hb0' : Below w1.heap.size w1 w0 := Below.trans ((Below.refl _ _).alloc (Nat.le_refl _) _) hb0
  go_loopw [5] (fun i wr => ∃ (k : Nat), k ≤ n ∧ i = .int .i64 k ∧ wr.ownsRow w1.heap.size 66 3 (.slice A0 n cap0) n (flatC (turnF (placeI (varsF t)) (t.take k) ++ t.drop k)) ∧ Below w1.heap.size w1 wr) (fun i _ => n - (intOf i).toNat)
  case atStart => exact ⟨0, Nat.zero_le _, rfl, by simpa [turnF] using hown0, hb0'⟩
  case round =>
    obtain ⟨k, hk, rfl, hown, hb⟩ := hrel
    by_cases hlt : k < n
    · obtain ⟨x, hxk⟩ := h.get hlt
      have hwf := h.wf x (List.mem_of_getElem? hxk)
      obtain ⟨gg, rfl⟩ : ∃ gg, A0 = some ⟨gg, 0, none⟩ := by
        obtain ⟨g, cap', hv, _⟩ := hown.form (by omega)
        injection hv with hv
        exact ⟨g, hv⟩
      have hxk' : (turnF (placeI (varsF t)) (t.take k) ++ t.drop k)[k]? = some x := by
        rw [List.getElem?_append_right (by simp [turnF]; omega)]
        have := Hl.out
        simp [turnF, hxk, show min k t.length = k by omega]
      obtain ⟨f0, f1, f2⟩ := flatC_get _ _ _ hxk'
      have hkl : k * 3 + 2 < n * 3 := by omega
      have h0 := (hown.cellAt (k * 3) (by omega)).trans f0
      have h1 := (hown.cellAt (k * 3 + 1) (by omega)).trans f1
      have h2 := (hown.cellAt (k * 3 + 2) (by omega)).trans f2
      have hz0 := hown.frozenAt (k * 3 + 2)
      have hgl := (hown.lt gg rfl)
      obtain ⟨hg1, hg2⟩ := hgl
      have hset : x.kind = 1 → (flatC (turnF (placeI (varsF t)) (t.take k) ++ t.drop k)).set (k * 3 + 2) (.int .i64 ((placeI (varsF t)) x.n)) = flatC (turnF (placeI (varsF t)) (t.take (k + 1)) ++ t.drop (k + 1)) := fun hk1 => turn_step (placeI (varsF t)) hxk hk1
      have hkeep : x.kind ≠ 1 → turnF (placeI (varsF t)) (t.take k) ++ t.drop k = turnF (placeI (varsF t)) (t.take (k + 1)) ++ t.drop (k + 1) := fun hk1 => turn_keep (placeI (varsF t)) hxk hk1
      have Hset := Lib.hid hset
      have Hkeep := Lib.hid hkeep
      clear hset hkeep hxk hxk' f0 f1 f2
      obtain ⟨hc, hf⟩ := bcell hb
      by_cases hk1 : x.kind = 1
      · have hbk : (x.kind == 1) = true := by simp [hk1]
        have Hk1 := Lib.hid hk1
        clear hk1
        have hvr : IsI wr A1 n1 c1 (varsF t) := hv1.below hb
        go_wp2_with (first | (go_at_call 52; go_must (refine (Place_any A1 n1 c1 (varsF t) x.n _ hvr hn1).mono ?_); rintro e w2 ⟨rfl, rfl⟩))
        go_roundw
        case rel =>
          refine ⟨k + 1, by omega, by go_num, ?_, ?_⟩
          · rw [← Hset.out Hk1.out]
            exact (hown.stored (k * 3 + 2) _).1
          · exact Below.setCell (p := ⟨gg, k * 3 + 2, none⟩) hb hg1 _
          
        case measure => simp [intOf]; omega
      · have hbk : (x.kind == 1) = false := by simp [hk1]
        have Hk1 := Lib.hid hk1
        clear hk1
        go_wp2
        go_roundw
        case rel => exact ⟨k + 1, by omega, by go_num, by rw [← Hkeep.out Hk1.out]; exact hown, hb⟩
        case measure => simp [intOf]; omega
    · have hkn : k = n := by omega
      subst hkn
      have hfin : turnF (placeI (varsF t)) (t.take k) ++ t.drop k = turnF (placeI (varsF t)) t := by rw [drop_end Hl.out (by omega), List.take_of_length_le (by rw [Hl.out]; exact Nat.le_refl _)]; simp
      rw [hfin] at hown
      have hres : IsC wr A0 k cap0 (turnF (placeI (varsF t)) t) := ⟨Sl.own hown (by omega), turn_wf (fun n => place_i64 (varsF t) n (by omega)) h.wf⟩
      clear hfin
      go_wp2
      go_ret
      exact ⟨_, _, _, rfl, hres, hbv.trans (hb.mono hbv.size)⟩
end Go.Proofs.YtekdcmplcjgonaaDoor

/- The walks that make a term of a name and its arguments. -/
namespace Go.Proofs.YtekdcmplcjgonaaDoor
open Go.RowKit

section
variable {P : Program} {w : World} {ops : Array Oper} {rest : List Oper} {o : Oper} {a : Act} {Q : Exit → Act → World → Prop}
theorem run_append_op {s x : Operand} {t u : TypeId} {v1 v2 r : Value} {w' : World} (ho : o.op = .call { callee := .builtin .append, args := #[s, x], argTypes := #[t, u] }) (hs : a.eval s = v1) (hx : a.eval x = v2)
    (hr : (Builtin.append_ #[t, u] o.type #[v1, v2]).run P w = .ok r w') : (execOp a.eval o).run P w = .ok (.value r) w' := by
  simp only [execOp, ho, resolve, invoke, builtin, Sem.run_bind, Sem.run_pure, Result.andThen_ok, List.map_toArray, List.map_cons, List.map_nil, hs, hx, hr]
/-- 'append(nil, make([]T, k)...)', k above 0 -/
theorem wpList_append_zeros (hw : Region.wanted o (yielded ops a.tmps) = true) (s x : Operand) (t tn : TypeId) (ho : o.op = .call { callee := .builtin .append, args := #[s, x], argTypes := #[t, tn] })
    (base : Nat) (e : TypeId) {z : Value} {size bytes : Nat} {kn : IntKind} (ht : P.underlying t = some (.slice e)) (htn : P.underlying tn = some (.int kn)) (hinfo : (P.info? e).map (fun i => (i.zero, i.size, i.bytes)) = some (some z, size, bytes))
    (hzs : z.cells.size = size) (hsz : 0 < size) (hs : a.eval s = .slice none 0 0) {k : Nat} (hx : a.eval x = .int .i64 k) (h0 : 0 < k) (hk : k ≤ 1000000000000) (hbyt : bytes ≤ 64) (hbase : base ≤ w.heap.size)
    (kk : ∀ g cap' w', w'.ownsRow base e size (.slice (some ⟨g, 0, none⟩) 0 cap') 0 [] → k ≤ cap' → Below base w w' → wpList P ops Q rest (a.put o.dst (.slice (some ⟨g, 0, none⟩) k cap')) w') :
    wpList P ops Q (o :: rest) a w := by
  obtain ⟨i, hi, hz, hsize, hby⟩ := info_parts hinfo
  have h48 : k * i.bytes ≤ 281474976710656 := by
    rw [hby]
    have : k * bytes ≤ 1000000000000 * 64 := Nat.mul_le_mul hk hbyt
    omega
  have hrun := Lib.run_append_nil_zeros (P := P) w t tn o.type e i z .i64 kn ht htn hi hz k h0 (by omega) (by omega) h48
  refine wpList_run (Φ := fun v' w' => ∃ g cap', v' = .slice (some ⟨g, 0, none⟩) k cap' ∧ w'.ownsRow base e size (.slice (some ⟨g, 0, none⟩) 0 cap') 0 [] ∧ k ≤ cap' ∧ Below base w w') hw ⟨_, _, run_append_op ho hs hx hrun, w.heap.size, _, rfl, ?_, grownCap_ge w k 0 e, ?_⟩ ?_
  · refine ⟨by simp, .inr ⟨w.heap.size, _, _, rfl, hbase, heap_alloc_new w.drew _, Nat.zero_le _, grownCap_le_maxLen w k 0 e (by simp only [maxLen]; omega), ?_, by simp⟩⟩
    have := grownCap_ge w k 0 e
    simp only [Array.size_append, size_zeroCells, hzs, ← Nat.add_mul]
    congr 1
    omega
  · exact ((Below.refl base w).drew).alloc hbase _
  · rintro v' w' ⟨g, cap', rfl, h1, h2, h3⟩
    exact kk g cap' w' h1 h2 h3
end


theorem flatten_take {ts : List (List C)} {k : Nat} {p : List C} (h : ts[k]? = some p) : (ts.take (k + 1)).flatten = (ts.take k).flatten ++ p := by
  obtain ⟨hl, he⟩ := List.getElem?_eq_some_iff.1 h
  rw [List.take_succ_eq_append_getElem hl, he]
  simp
theorem flatten_le (ts : List (List C)) (k : Nat) : (ts.take k).flatten.length ≤ ts.flatten.length := by
  have h := congrArg (fun l : List (List C) => l.flatten.length) (List.take_append_drop k ts)
  simp only [List.flatten_append, List.length_append] at h
  omega





def mkRow (name : ByteArray) (l : List (List C)) : List C := ⟨3, name, l.length⟩ :: l.flatten
theorem makeF_eq (name : ByteArray) (l : List (List C)) : makeF name l = if l.all rightB && rightB (mkRow name l) then mkRow name l else [] := rfl
theorem make_yes {name : ByteArray} {l : List (List C)} (h1 : l.all rightB = true) (h2 : rightB (mkRow name l) = true) : makeF name l = mkRow name l := by rw [makeF_eq, h1, h2]; rfl
theorem make_no1 {name : ByteArray} {l : List (List C)} (h1 : l.all rightB = false) : makeF name l = [] := by rw [makeF_eq, h1]; rfl
theorem make_no2 {name : ByteArray} {l : List (List C)} (h2 : rightB (mkRow name l) = false) : makeF name l = [] := by rw [makeF_eq, h2]; simp
theorem any_not (l : List (List C)) : (l.any fun t => !rightB t) = !(l.all rightB) := by
  induction l with
  | nil => rfl
  | cons p l ih => simp only [List.any_cons, List.all_cons, ih]; cases rightB p <;> simp


theorem all_drop {l : List (List C)} {k : Nat} (h1 : (l.take k).all rightB = true) : l.all rightB = (l.drop k).all rightB := by
  conv => lhs; rw [← List.take_append_drop k l]
  rw [List.all_append, h1, Bool.true_and]
set_option maxHeartbeats 800000 in
theorem rMake_any (name : ByteArray) (A : Option Addr) (n cap : Nat) (ts : List (List C)) (w : World) (h : IsCC w A n cap ts) (hn : n ≤ 1000) (hf : ts.flatten.length ≤ 10000) (hname : name.size ≤ maxLen) :
    Calls Tryd.prog 34 #[.string name, .slice A n cap] w (RetC w (makeF name ts)) := by
  have hs : ∀ t ∈ ts, t.length ≤ 10000 := fun t ht => by have := mem_length ht; omega
  have hl := h.len
  have hmk : (⟨3, name, (n : Int)⟩ : C) :: ts.flatten = mkRow name ts := by rw [← hl]; rfl
  have Hs := Lib.hid hs
  have Hl := Lib.hid hl
  have Hmk := Lib.hid hmk
  have Hf := Lib.hid hf
  have hwf1 : (⟨3, name, (n : Int)⟩ : C).wf := ⟨by simp [i64], by constructor <;> (dsimp only; omega), hname⟩
  clear hs hl hmk hf
  go_enter Tryd.func34, Tryd.ntmps34
  go_wp2
  go_loopw [5, 6] (fun o i wr => ∃ (k m c2 : Nat) (A2 : Option Addr), k ≤ n ∧ i = .int .i64 k ∧ o = .slice A2 m c2 ∧ m ≤ 10001 ∧ wr.ownsRow w.heap.size 66 3 (.slice A2 m c2) m (flatC (⟨3, name, n⟩ :: (ts.take k).flatten)) ∧ Hid ((ts.take k).all rightB = true) ∧ Below w.heap.size w wr) (fun _ i _ => n - (intOf i).toNat)
  case atStart => exact ⟨0, 1, 1, _, Nat.zero_le _, rfl, rfl, by omega, World.ownsRow_lit w #[.int .i64 3, .string name, .int .i64 n] 1 (Nat.le_refl _) (by simp [maxLen]) rfl, rfl, (by repeat (first | assumption | exact Below.refl _ _ | refine Below.drew ?_ | refine below_drewN ?_ _ | refine Below.alloc ?_ ?_ _ | refine Below.setCell ?_ ?_ _ | (apply Below.size; assumption) | (simp; done) | (simp; omega) | (have hz := hb.size; simp; omega) | (have hz := hb.size; omega) | omega))⟩
  case round =>
    obtain ⟨k, m, c2, A2, hk, rfl, rfl, hm, hown, hall, hb⟩ := hrel
    by_cases hlt : k < n
    · obtain ⟨p, hpk⟩ := h.get hlt
      obtain ⟨b, off, A', n', c', rfl, hbb, h0, hcp⟩ := h.at_ hpk
      have hpl := hcp.len
      have hp1 : n' ≤ 10000 := by rw [← hcp.len]; exact Hs.out p (List.mem_of_getElem? hpk)
      have hml : (ts.take k).flatten.length + 1 = m := by
        have := hown.1
        rw [flatC_len, List.length_cons] at this
        omega
      have hn' : m + n' ≤ 10001 := by
        have h1 := flatten_le ts (k + 1)
        rw [flatten_take hpk, List.length_append, hpl] at h1
        have := Hf.out
        omega
      have hd := drop_get hpk
      have Hd := Lib.hid hd
      have Hpk := Lib.hid hpk
      clear hpk hpl hml hd
      obtain ⟨hc, hf⟩ := bcell hb
      cases hr : rightB p
      all_goals
        have Hr := Lib.hid hr
        clear hr
        go_wp2_with (first
          | (go_at_call 36; go_must (refine (rRight_any A' n' c' p _ (hcp.below hb) (by omega)).mono ?_); rw [Hr.out]; rintro e w3 ⟨rfl, hb3⟩; replace hb := hb.trans (hb3.mono hb.size); replace hown := own_below hown hb3; clear hc hf; obtain ⟨hc, hf⟩ := bcell hb)
          | (at_builtin; go_must (refine wpList_append_sl rfl (.tmp 24) (.tmp 28) 22 rfl w.heap.size 66 Tryd.underlying22 infoC rfl (by omega) rfl hown rfl (hcp.sl.below hb) (oneC p) (by omega) (by omega) hb.size ?_); intro A3 c3 w4 hown3 hb4 _ _))
      · go_ret
        have : ts.all rightB = false := by rw [all_drop hall.out, Hd.out, List.all_cons, Hr.out]; rfl
        rw [make_no1 this]
        exact ⟨_, _, _, rfl, IsC.nil0 _, hb⟩
      · go_roundw
        case rel =>
          refine ⟨k + 1, m + n', c3, A3, by omega, by go_num, rfl, hn', ?_, Lib.hid ?_, hb.trans hb4⟩
          · rw [flatten_take Hpk.out, ← List.cons_append, flatC_append]; exact hown3
          · obtain ⟨hl, he⟩ := List.getElem?_eq_some_iff.1 Hpk.out
            rw [List.take_succ_eq_append_getElem hl, he, List.all_append, hall.out]
            simp [Hr.out]
        case measure => simp [intOf]; omega
    · have hwf : ∀ c ∈ ts.flatten, c.wf := by
        intro c hc
        obtain ⟨p, hp, hcp⟩ := List.mem_flatten.1 hc
        obtain ⟨i, hi, rfl⟩ := List.getElem_of_mem hp
        obtain ⟨_, _, _, _, _, _, _, _, hcc⟩ := h.at_ (List.getElem?_eq_getElem hi)
        exact hcc.wf c hcp
      have htk : ts.take k = ts := List.take_of_length_le (by rw [Hl.out]; omega)
      have hall' := hall.out
      rw [htk] at hown hall'
      have Hall := Lib.hid hall'
      have hrow : IsC wr A2 m c2 (mkRow name ts) := by
        refine ⟨?_, ?_⟩
        · rw [← Hmk.out]; exact Sl.own hown (by omega)
        · rw [← Hmk.out]
          intro c hc
          rcases List.mem_cons.1 hc with rfl | hc
          · exact hwf1
          · exact hwf c hc
      clear hwf htk hall' hall
      cases hr : rightB (mkRow name ts)
      all_goals
        have Hr := Lib.hid hr
        clear hr
        go_wp2_with (first
          | (go_at_call 36; go_must (refine (rRight_any A2 m c2 _ _ hrow (by omega)).mono ?_); rw [Hr.out]; rintro e w4 ⟨rfl, hb4⟩; replace hb := hb.trans (hb4.mono hb.size)))
        go_ret
      · rw [make_no2 Hr.out]
        exact ⟨_, _, _, rfl, IsC.nil0 _, hb⟩
      · rw [make_yes Hall.out Hr.out]
        exact ⟨_, _, _, rfl, hrow.below hb4, hb⟩
end Go.Proofs.YtekdcmplcjgonaaDoor
