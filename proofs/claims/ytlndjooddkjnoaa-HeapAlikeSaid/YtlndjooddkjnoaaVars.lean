/- The walks that gather a term's variables, and ask whether it has any. -/
import Derived.Test.YtlndjooddkjnoaaSame
set_option linter.unusedVariables false
set_option linter.unusedSimpArgs false
namespace Go.Proofs.Ytlndjooddkjnoaa
open Go.RowKit

theorem infoI : (Try.prog.info? 3).map (fun i => (i.zero, i.size, i.bytes)) = some (some (.int .i64 0), 1, 8) := by kernel_rfl
theorem varsA_cons (acc : List Int) (c : C) (cs : List C) : varsA acc (c :: cs) = if c.kind = 1 ∧ inI acc c.n = false then varsA (acc ++ [c.n]) cs else varsA acc cs := rfl


set_option maxHeartbeats 400000 in
theorem rVars_any (A : Option Addr) (n cap : Nat) (t : List C) (w : World) (h : IsC w A n cap t) (hn : n ≤ 100000) :
    Calls Try.prog 33 #[.slice A n cap] w (RetI w (varsF t)) := by
  go_enter Try.func33, Try.ntmps33
  go_wp2
  go_loopw [3, 4] (fun o i wr => ∃ (k m c' : Nat) (Ao : Option Addr) (acc : List Int), k ≤ n ∧ i = .int .i64 k ∧ o = .slice Ao m c' ∧ m ≤ k ∧ wr.ownsRow w.heap.size 3 1 (.slice Ao m c') m (acc.map (Value.int .i64)) ∧ (∀ x ∈ acc, i64 x) ∧ Hid (varsA acc (t.drop k) = varsF t) ∧ Below w.heap.size w wr) (fun _ i _ => n - (intOf i).toNat)
  case atStart => exact ⟨0, 0, 0, _, [], Nat.zero_le _, rfl, rfl, Nat.le_refl _, World.ownsRow_lit w #[] 0 (Nat.le_refl _) (by simp [maxLen]) rfl, by simp, rfl, (Below.refl _ _).alloc (Nat.le_refl _) _⟩
  case round =>
    obtain ⟨k, m, c', Ao, acc, hk, rfl, rfl, hm, hown, hwa, hres, hb⟩ := hrel
    have hacc : IsI wr Ao m c' acc := ⟨Sl.own hown (by omega), hwa⟩
    by_cases hlt : k < n
    · obtain ⟨x, hxk⟩ := h.get hlt
      obtain ⟨b, off, rfl, hbb, hwf, h0, h1, h2⟩ := h.at_ hxk
      have hd := drop_get hxk
      have Hd := Lib.hid hd
      clear hxk hd
      obtain ⟨hc, hf⟩ := bcell hb
      by_cases hk1 : x.kind = 1
      · have hbk : (x.kind == 1) = true := by simp [hk1]
        have Hk1 := Lib.hid hk1
        clear hk1
        have hcon := In_any Ao m c' acc x.n
        cases hin : inI acc x.n
        · rw [hin] at hcon
          have Hcon := Lib.hid hcon
          have Hin := Lib.hid hin
          clear hcon hin
          go_wp2_with (first
            | (go_at_call 34; go_must (refine (Hcon.out _ (hacc.below (by repeat (first | assumption | exact Below.refl _ _ | refine Below.drew ?_ | refine below_drewN ?_ _ | refine Below.alloc ?_ ?_ _ | refine Below.setCell ?_ ?_ _ | (apply Below.size; assumption) | (simp; done) | (simp; omega) | (have hz := hb.size; simp; omega) | (have hz := hb.size; omega) | omega))) (by omega)).mono ?_); rintro e w1 ⟨rfl, rfl⟩)
            | (at_builtin; go_must (refine wpList_append_sl rfl (.tmp 28) (.tmp 34) 23 rfl w.heap.size 3 Try.underlying23 infoI rfl (by omega) rfl (hown.alloc _) rfl (Sl.lit _ _ [.int .i64 x.n] 3 1 1 (by simp) rfl (by simp [maxLen])) (one1 rfl) (by omega) (by omega) (by have := hb.size; simp; omega) ?_); intro A' cap' w1 hown1 hb1 _ _))
          have hb2 : Below w.heap.size w w1 := Below.trans (by repeat (first | assumption | exact Below.refl _ _ | refine Below.drew ?_ | refine below_drewN ?_ _ | refine Below.alloc ?_ ?_ _ | refine Below.setCell ?_ ?_ _ | (apply Below.size; assumption) | (simp; done) | (simp; omega) | (have hz := hb.size; simp; omega) | (have hz := hb.size; omega) | omega)) hb1
          go_roundw
          case rel =>
            refine ⟨k + 1, m + 1, cap', A', acc ++ [x.n], by omega, by go_num, rfl, by omega, by simpa using hown1, ?_, Lib.hid ?_, hb2⟩
            · intro y hy
              rcases List.mem_append.1 hy with hy | hy
              · exact hwa y hy
              · simp at hy; subst hy; exact hwf.n
            · have := hres.out
              rw [Hd.out, varsA_cons, if_pos ⟨Hk1.out, Hin.out⟩] at this
              exact this
          case measure => simp [intOf]; omega
        · rw [hin] at hcon
          have Hcon := Lib.hid hcon
          have Hin := Lib.hid hin
          clear hcon hin
          go_wp2_with (first
            | (go_at_call 34; go_must (refine (Hcon.out _ (hacc.below (by repeat (first | assumption | exact Below.refl _ _ | refine Below.drew ?_ | refine below_drewN ?_ _ | refine Below.alloc ?_ ?_ _ | refine Below.setCell ?_ ?_ _ | (apply Below.size; assumption) | (simp; done) | (simp; omega) | (have hz := hb.size; simp; omega) | (have hz := hb.size; omega) | omega))) (by omega)).mono ?_); rintro e w1 ⟨rfl, rfl⟩))
          go_roundw
          case rel =>
            refine ⟨k + 1, m, c', Ao, acc, by omega, by go_num, rfl, by omega, hown, hwa, Lib.hid ?_, (by repeat (first | assumption | exact Below.refl _ _ | refine Below.drew ?_ | refine below_drewN ?_ _ | refine Below.alloc ?_ ?_ _ | refine Below.setCell ?_ ?_ _ | (apply Below.size; assumption) | (simp; done) | (simp; omega) | (have hz := hb.size; simp; omega) | (have hz := hb.size; omega) | omega))⟩
            have := hres.out
            rw [Hd.out, varsA_cons, if_neg (by simp [Hin.out])] at this
            exact this
          case measure => simp [intOf]; omega
      · have hbk : (x.kind == 1) = false := by simp [hk1]
        have Hk1 := Lib.hid hk1
        clear hk1
        go_wp2
        go_roundw
        case rel =>
          refine ⟨k + 1, m, c', Ao, acc, by omega, by go_num, rfl, by omega, hown, hwa, Lib.hid ?_, (by repeat (first | assumption | exact Below.refl _ _ | refine Below.drew ?_ | refine below_drewN ?_ _ | refine Below.alloc ?_ ?_ _ | refine Below.setCell ?_ ?_ _ | (apply Below.size; assumption) | (simp; done) | (simp; omega) | (have hz := hb.size; simp; omega) | (have hz := hb.size; omega) | omega))⟩
          have := hres.out
          rw [Hd.out, varsA_cons, if_neg (by simp [Hk1.out])] at this
          exact this
        case measure => simp [intOf]; omega
    · go_wp2
      go_ret
      exact ⟨_, _, _, rfl, by have := hres.out; rw [drop_end h.len hlt] at this; rw [← this]; exact hacc, hb⟩






end Go.Proofs.Ytlndjooddkjnoaa
