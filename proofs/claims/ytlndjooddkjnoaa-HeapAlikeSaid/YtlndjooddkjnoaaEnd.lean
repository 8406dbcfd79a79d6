/- The walks that pass over a term, and ask whether a row is one. -/
import Derived.Test.YtlndjooddkjnoaaT
import Derived.Test.YtlndjooddkjnoaaB0
import Derived.Laws.EntriesVeiled
set_option linter.unusedVariables false
set_option linter.unusedSimpArgs false
namespace Go.Proofs.Ytlndjooddkjnoaa
open Go.RowKit

set_option maxHeartbeats 400000 in
theorem rEnd_any (A : Option Addr) (n cap : Nat) (t : List C) (at_ : Nat) (w : World) (h : IsC w A n cap t) (hn : n ≤ 100000) (hat : at_ ≤ 100000) :
    Calls Try.prog 50 #[.slice A n cap, .int .i64 at_] w (RetV w (.int .i64 (endR t at_))) := by
  go_enter Try.func50, Try.ntmps50
  go_wp2
  go_loopw [5, 6] (fun o i wr => ∃ (k m : Nat), k ≤ 100000 ∧ i = .int .i64 k ∧ o = .int .i64 m ∧ 0 < m ∧ m ≤ 1 + 6 * k ∧ at_ ≤ k ∧ Hid (skip (t.drop k) m = skip (t.drop at_) 1) ∧ Below w.heap.size w wr) (fun _ i _ => n - (intOf i).toNat)
  case atStart => exact ⟨at_, 1, hat, rfl, rfl, by omega, by omega, Nat.le_refl _, rfl, Below.refl _ _⟩
  case round =>
    obtain ⟨k, m, hk, rfl, rfl, hm, hm2, hle, hres, hb⟩ := hrel
    by_cases hlt : k < n
    · obtain ⟨x, hxk⟩ := h.get hlt
      obtain ⟨b, off, rfl, hbb, hwf, h0, h1, h2⟩ := h.at_ hxk
      have hd := drop_get hxk
      have hl := h.len
      have Hd := Lib.hid hd
      have Hl := Lib.hid hl
      clear hxk hd hl
      obtain ⟨hc, hf⟩ := bcell hb
      have hany := cell_any x
      cases ho : x.ok
      · rw [ho] at hany
        have Hany := Lib.hid hany
        have Ho := Lib.hid ho
        clear hany ho
        go_wp2_with (first | (go_at_call 83; go_must (refine (Hany.out _ hwf).mono ?_); rintro e w1 ⟨rfl, hbn⟩; replace hb := hb.trans (hbn.mono hb.size); clear hbn; obtain ⟨hc, hf⟩ := bcell hb))
        go_ret
        refine ⟨ret_int (Eq.symm (endR_none ?_)), hb⟩
        rw [endN_none, ← hres.out, Hd.out]
        obtain ⟨m, rfl⟩ : ∃ q, m = q + 1 := ⟨m - 1, by omega⟩
        rw [skip_cons, Ho.out]; rfl
      · rw [ho] at hany
        have Hany := Lib.hid hany
        have Ho := Lib.hid ho
        by_cases hk3 : x.kind = 3
        · have hn6 := ok_fun ho hk3
          obtain ⟨hn0, hn6⟩ := hn6
          have har := ar_fun ho hk3
          have Har := Lib.hid har
          have Hk3 := Lib.hid hk3
          have hbk : (x.kind == 3) = true := by simp [hk3]
          clear hany ho hk3 har
          by_cases hz : m - 1 + x.n.toNat = 0
          · have hz' : ((m : Int) - 1 + x.n == 0) = true := by simp; omega
            go_wp2_with (first | (go_at_call 83; go_must (refine (Hany.out _ hwf).mono ?_); rintro e w1 ⟨rfl, hbn⟩; replace hb := hb.trans (hbn.mono hb.size); clear hbn; obtain ⟨hc, hf⟩ := bcell hb))
            go_ret
            refine ⟨ret_int (Eq.symm (endR_some (e := k + 1) ?_)), hb⟩
            rw [endN_some, ← hres.out, Hd.out]
            have hm1 : m = 0 + 1 := by omega
            have har0 : x.ar = 0 := by have := Har.out; omega
            have hlen := Hl.out
            rw [hm1, skip_cons, if_pos Ho.out, har0, skip_zero]
            exact ⟨rfl, by omega, by omega⟩
          · have hz' : ((m : Int) - 1 + x.n == 0) = false := by simp; omega
            go_wp2_with (first | (go_at_call 83; go_must (refine (Hany.out _ hwf).mono ?_); rintro e w1 ⟨rfl, hbn⟩; replace hb := hb.trans (hbn.mono hb.size); clear hbn; obtain ⟨hc, hf⟩ := bcell hb))
            have hlen := Hl.out
            have har := Har.out
            go_roundw
            case rel =>
              refine ⟨k + 1, m - 1 + x.n.toNat, by omega, by go_num, ?_, by omega, by omega, by omega, Lib.hid ?_, hb⟩
              · congr 1; omega
              · have := hres.out
                rw [Hd.out, show m = (m - 1) + 1 by omega, skip_cons, if_pos Ho.out] at this
                rw [← this]
                congr 1; omega
            case measure => simp [intOf]; omega
        · have har := ar_other hk3
          have Har := Lib.hid har
          have hbk : (x.kind == 3) = false := by simp [hk3]
          clear hany ho hk3 har
          by_cases hz : m = 1
          · subst hz
            go_wp2_with (first | (go_at_call 83; go_must (refine (Hany.out _ hwf).mono ?_); rintro e w1 ⟨rfl, hbn⟩; replace hb := hb.trans (hbn.mono hb.size); clear hbn; obtain ⟨hc, hf⟩ := bcell hb))
            go_ret
            refine ⟨ret_int (Eq.symm (endR_some (e := k + 1) ?_)), hb⟩
            rw [endN_some, ← hres.out, Hd.out]
            have hlen := Hl.out
            rw [skip_cons, if_pos Ho.out, Har.out, skip_zero]
            exact ⟨rfl, by omega, by omega⟩
          · have hz' : ((m : Int) - 1 == 0) = false := by simp; omega
            go_wp2_with (first | (go_at_call 83; go_must (refine (Hany.out _ hwf).mono ?_); rintro e w1 ⟨rfl, hbn⟩; replace hb := hb.trans (hbn.mono hb.size); clear hbn; obtain ⟨hc, hf⟩ := bcell hb))
            have hlen := Hl.out
            have har := Har.out
            go_roundw
            case rel =>
              refine ⟨k + 1, m - 1, by omega, by go_num, ?_, by omega, by omega, by omega, Lib.hid ?_, hb⟩
              · congr 1; omega
              · have := hres.out
                rw [Hd.out, show m = (m - 1) + 1 by omega, skip_cons, if_pos Ho.out, har, Nat.add_zero] at this
                exact this
            case measure => simp [intOf]; omega
    · go_wp2
      go_ret
      refine ⟨ret_int (Eq.symm (endR_none ?_)), hb⟩
      rw [endN_none, ← hres.out, drop_end h.len hlt]
      exact skip_nil _ hm

set_option maxHeartbeats 400000 in
theorem rRight_any (A : Option Addr) (n cap : Nat) (t : List C) (w : World) (h : IsC w A n cap t) (hn : n ≤ 100000) : Calls Try.prog 17 #[.slice A n cap] w (RetV w (.bool (rightB t))) := by
  have hl := h.len
  have Hl := Lib.hid hl
  have hr := endR t 0
  clear hl
  go_enter Try.func17, Try.ntmps17
  go_wp2_with (first | (go_at_call 50; go_must (refine (rEnd_any A n cap t 0 _ h hn (by omega)).mono ?_); rintro e w1 ⟨rfl, hb⟩))
  · go_ret
    exact ⟨ret_bool (right_R t n Hl.out (by omega) (by omega)), hb⟩
  · go_ret
    exact ⟨ret_bool (right_no t n Hl.out (by omega)).symm, Below.refl _ _⟩
  · go_ret
    exact ⟨ret_bool (right_no t n Hl.out (by omega)).symm, Below.refl _ _⟩

/-- 'visit': the closure of term.end -/
theorem visit_any (A : Option Addr) (n cap : Nat) (t : List C) (bt bv : Nat) (hn : n ≤ 100000) (hl : t.length = n) (fuel : Nat) : ∀ (at_ : Nat) (w : World), n ≤ at_ + fuel → at_ ≤ 100000 → IsC w A n cap t → bt < w.heap.size → bv < w.heap.size →
    w.cell? ⟨bt, 0, none⟩ = some (.slice A n cap) → w.cell? ⟨bv, 0, none⟩ = some (.func (.func 96) #[] #[.pointer (some ⟨bt, 0, none⟩), .pointer (some ⟨bv, 0, none⟩)]) →
    Calls Try.prog 96 #[.int .i64 at_, .pointer (some ⟨bt, 0, none⟩), .pointer (some ⟨bv, 0, none⟩)] w (RetV w (.int .i64 (endT t at_))) := by
  have Hl := Lib.hid hl
  clear hl
  induction fuel with
  | zero =>
    intro at_ w hf hat h hbt hbv ct cv
    have hout : endT t at_ = 0 := endT_none (endN_out (by have := Hl.out; omega))
    have Hout := Lib.hid hout
    clear hout
    go_enter Try.func96, Try.ntmps96
    go_wp2_with fail
    go_ret
    exact ⟨ret_int Hout.out.symm, Below.refl _ _⟩
  | succ fuel ih =>
    intro at_ w hf hat h hbt hbv ct cv
    have Ih := Lib.hid ih
    clear ih
    by_cases hlt : at_ < n
    · obtain ⟨x, hxk⟩ := h.get hlt
      obtain ⟨b, off, rfl, hbb, hwf, h0, h1, h2⟩ := h.at_ hxk
      have Hx := Lib.hid hxk
      clear hxk
      have hany := right_any x
      have hb := Below.refl w.heap.size w
      cases ho : x.ok
      · rw [ho] at hany
        have Hany := Lib.hid hany
        have Ho := Lib.hid ho
        clear hany ho
        go_enter Try.func96, Try.ntmps96
        go_wp2_with (first | (go_at_call 97; go_must (refine (Hany.out _ hwf).mono ?_); rintro e w1 ⟨rfl, hbn⟩; replace hb := hb.trans (hbn.mono hb.size); clear hbn; obtain ⟨hc, hf⟩ := bcell hb))
        go_ret
        exact ⟨ret_int (endT_none (endN_bad Hx.out Ho.out)).symm, hb⟩
      · rw [ho] at hany
        have Hany := Lib.hid hany
        have Ho := Lib.hid ho
        by_cases hk3 : x.kind = 3
        · have hbk : (x.kind != 3) = false := by simp [hk3]
          have hdec : decide (n ≤ at_) = false := by simp; omega
          have hn6 := ok_fun ho hk3
          obtain ⟨hn0, hn6⟩ := hn6
          have har := ar_fun ho hk3
          have Har := Lib.hid har
          clear hany ho hk3 har
          go_enter Try.func96, Try.ntmps96
          go_wp2_with (first | (go_at_call 97; go_must (refine (Hany.out _ hwf).mono ?_); rintro e w1 ⟨rfl, hbn⟩; replace hb := hb.trans (hbn.mono hb.size); clear hbn; obtain ⟨hc, hf⟩ := bcell hb))
          go_loopw [5, 32] (fun p j wr => ∃ (q i : Nat), p = .int .i64 q ∧ j = .int .i64 i ∧ i ≤ x.ar ∧ at_ + 1 ≤ q ∧ q ≤ n ∧ Hid (skip (t.drop q) (x.ar - i) = skip (t.drop (at_ + 1)) x.ar) ∧ Below w.heap.size w wr) (fun _ j _ => x.ar - (intOf j).toNat)
          case atStart => exact ⟨at_ + 1, 0, by go_num, rfl, Nat.zero_le _, Nat.le_refl _, by omega, rfl, hb⟩
          case round =>
            clear hb hc hf
            obtain ⟨q, i, rfl, rfl, hi, hq1, hq2, hres, hb⟩ := hrel
            obtain ⟨hc, hf⟩ := bcell hb
            by_cases hj : i < x.ar
            · have hj' : (i : Int) < x.n := by have := Har.out; omega
              have hvis := Ih.out q wr (by omega) (by omega) (h.below hb) (Nat.lt_of_lt_of_le hbt hb.size) (Nat.lt_of_lt_of_le hbv hb.size) ((hc _ _ hbt).trans ct) ((hc _ _ hbv).trans cv)
              cases he : endN t q with
              | none =>
                rw [endT_none he] at hvis
                have Hvis := Lib.hid hvis
                have He := Lib.hid he
                clear hvis he
                go_wp2_with (first | (go_at_call 96; go_must (refine Hvis.out.mono ?_); rintro e w2 ⟨rfl, hb2⟩; replace hb := hb.trans (hb2.mono hb.size)))
                go_ret
                refine ⟨ret_int (endT_none (endN_args Hx.out Ho.out ?_)).symm, hb⟩
                rw [← hres.out, show x.ar - i = 1 + (x.ar - i - 1) by omega, skip_add, endN_none.1 He.out]
                rfl
              | some e =>
                obtain ⟨he1, he2, he3⟩ := endN_some.1 he
                rw [endT_some he] at hvis
                have hez : ((e : Int) == 0) = false := by simp; omega
                have Hvis := Lib.hid hvis
                have He1 := Lib.hid he1
                clear hvis he he1
                go_wp2_with (first | (go_at_call 96; go_must (refine Hvis.out.mono ?_); rintro e w2 ⟨rfl, hb2⟩; replace hb := hb.trans (hb2.mono hb.size)))
                have hlen := Hl.out
                go_roundw
                case rel =>
                  refine ⟨e, i + 1, rfl, by go_num, by omega, by omega, by omega, Lib.hid ?_, hb⟩
                  rw [← hres.out, show x.ar - i = 1 + (x.ar - (i + 1)) by omega, skip_add, He1.out]
                  rfl
                case measure => simp [intOf]; omega
            · have hj' : ¬ (i : Int) < x.n := by have := Har.out; omega
              go_wp2
              go_ret
              have hlen := Hl.out
              refine ⟨ret_int (Eq.symm (endT_some (endN_good Hx.out Ho.out (by omega) (by omega) ?_))), hb⟩
              rw [← hres.out, show x.ar - i = 0 by omega, skip_zero]
        · have hbk : (x.kind != 3) = true := by simp [hk3]
          have har := ar_other hk3
          have Har := Lib.hid har
          clear hany ho hk3 har
          go_enter Try.func96, Try.ntmps96
          go_wp2_with (first | (go_at_call 97; go_must (refine (Hany.out _ hwf).mono ?_); rintro e w1 ⟨rfl, hbn⟩; replace hb := hb.trans (hbn.mono hb.size); clear hbn; obtain ⟨hc, hf⟩ := bcell hb))
          go_ret
          refine ⟨ret_int (Eq.symm (endT_some (e := at_ + 1) (endN_good Hx.out Ho.out (by omega) (by have := Hl.out; omega) ?_))), hb⟩
          rw [Har.out, skip_zero]
    · have hout : endT t at_ = 0 := endT_none (endN_out (by have := Hl.out; omega))
      have Hout := Lib.hid hout
      clear hout
      go_enter Try.func96, Try.ntmps96
      go_wp2_with fail
      go_ret
      exact ⟨ret_int Hout.out.symm, Below.refl _ _⟩

set_option maxHeartbeats 400000 in
theorem tend_any (A : Option Addr) (n cap : Nat) (t : List C) (at_ : Nat) (w : World) (h : IsC w A n cap t) (hn : n ≤ 100000) (hat : at_ ≤ 100000) :
    Calls Try.prog 92 #[.slice A n cap, .int .i64 at_] w (RetV w (.int .i64 (endT t at_))) := by
  have hmf : ∀ (fn : Fn) (first cap : Array Value) (w : World), (Instr.makeFunc fn first cap).run Try.prog w = .ok (.func fn first cap) w := fun _ _ _ _ => rfl
  have hl := h.len
  have Hl := Lib.hid hl
  clear hl
  go_enter Try.func92, Try.ntmps92
  go_wp2_with fail
  refine (visit_any A n cap t w.heap.size (w.heap.size + 1) hn Hl.out n at_ _ (by omega) hat (h.below (by repeat (first | assumption | exact Below.refl _ _ | refine Below.drew ?_ | refine below_drewN ?_ _ | refine Below.alloc ?_ ?_ _ | refine Below.setCell ?_ ?_ _ | (apply Below.size; assumption) | (simp; done) | (simp; omega) | (have hz := hb.size; simp; omega) | (have hz := hb.size; omega) | omega))) (by simp; omega) (by simp) (by go_simp) (by go_simp)).mono ?_
  rintro e w1 ⟨rfl, hb⟩
  replace hb := Below.trans (a := w) (B := w.heap.size) (by repeat (first | assumption | exact Below.refl _ _ | refine Below.drew ?_ | refine below_drewN ?_ _ | refine Below.alloc ?_ ?_ _ | refine Below.setCell ?_ ?_ _ | (apply Below.size; assumption) | (simp; done) | (simp; omega) | (have hz := hb.size; simp; omega) | (have hz := hb.size; omega) | omega)) (hb.mono (by first | exact Nat.le_refl _ | (simp; done) | (simp; omega)))
  go_wp2_with fail
  go_ret
  exact ⟨rfl, hb⟩

set_option maxHeartbeats 400000 in
theorem tRight_any (A : Option Addr) (n cap : Nat) (t : List C) (w : World) (h : IsC w A n cap t) (hn : n ≤ 100000) : Calls Try.prog 78 #[.slice A n cap] w (RetV w (.bool (rightB t))) := by
  have hl := h.len
  have Hl := Lib.hid hl
  clear hl
  by_cases hr : 1 ≤ n ∧ n ≤ 200
  · have h1 : (1 : Int) ≤ (n : Int) := by omega
    have h2 : (n : Int) ≤ 200 := by omega
    go_enter Try.func78, Try.ntmps78
    go_wp2_with (first
      | (go_at_call 91; go_must (refine (in_yes _ 1 200 _ h1 h2).mono ?_); rintro e w1 ⟨rfl, rfl⟩)
      | (go_at_call 92; go_must (refine (tend_any A n cap t 0 _ h hn (by omega)).mono ?_); rintro e w1 ⟨rfl, hb⟩))
    go_ret
    exact ⟨ret_bool (right_T t n Hl.out (by omega) (by omega)), hb⟩
  · have h1 : (n : Int) < 1 ∨ 200 < (n : Int) := by omega
    go_enter Try.func78, Try.ntmps78
    go_wp2_with (first
      | (go_at_call 91; go_must (refine (in_no _ 1 200 _ h1).mono ?_); rintro e w1 ⟨rfl, rfl⟩))
    go_ret
    exact ⟨ret_bool (right_no t n Hl.out (by omega)).symm, Below.refl _ _⟩
end Go.Proofs.Ytlndjooddkjnoaa
