/- The walks that tell how deep a term is. -/
import Derived.Test.YtnhfnpjfahmmpaaParts
import Derived.Test.YtnhfnpjfahmmpaaPart
namespace Go.Proofs.Ytnhfnpjfahmmpaa
open Go.RowKit

theorem maxA_cons (d : List C → Nat) (m : Nat) (p : List C) (l : List (List C)) : maxA d m (p :: l) = maxA d (max m (d p)) l := rfl

set_option maxHeartbeats 400000 in
theorem tDepth_fuel (fuel : Nat) : ∀ (A : Option Addr) (n cap : Nat) (t : List C) (w : World), IsC w A n cap t → rightB t = true → n ≤ fuel → fuel ≤ 200 →
    Calls Try.prog 18 #[.slice A n cap] w (RetV w (.int .i64 (depthF t))) := by
  induction fuel with
  | zero =>
    intro A n cap t w h hr hn _
    have := skip_pos ((right_iff _).1 hr).1
    have := h.len
    omega
  | succ fuel ih =>
    intro A n cap t w h hr hn hf
    have hdeq := depthF_eq hr
    have hpr : ∀ p ∈ partsF t, rightB p = true ∧ p.length < t.length := fun p hp => parts_right hr hp
    have hl := h.len
    have hp6 := parts_len hr
    have Ih := Lib.hid ih
    have Hdeq := Lib.hid hdeq
    have Hpr := Lib.hid hpr
    have Hl := Lib.hid hl
    have Hpar := Lib.hid (tParts_any A n cap t w h hr)
    clear ih hdeq hpr hl hr
    go_enter Try.func18, Try.ntmps18
    go_wp2_with (first | (go_at_call 26; go_must (refine Hpar.out.mono ?_); rintro e w1 ⟨Ap, np, cp, rfl, hcc, hb⟩))
    have hnp := hcc.len
    have hnp7 : np ≤ 200 := by omega
    have Hnp := Lib.hid hnp
    clear hnp
    go_loopw [3, 9] (fun o i wr => ∃ (k m : Nat), k ≤ np ∧ i = .int .i64 k ∧ o = .int .i64 m ∧ m ≤ 200 ∧ Hid (maxA depthF m ((partsF t).drop k) = maxA depthF 0 (partsF t)) ∧ Below w1.heap.size w1 wr) (fun _ i _ => np - (intOf i).toNat)
    case atStart => exact ⟨0, 0, by omega, rfl, rfl, by omega, rfl, Below.refl _ _⟩
    case round =>
      obtain ⟨k, m, hk, rfl, rfl, hm, hres, hbr⟩ := hrel
      by_cases hlt : k < np
      · obtain ⟨p, hpk⟩ := hcc.get hlt
        obtain ⟨b, off, A', n', c', rfl, hbb, h0, hcp⟩ := hcc.at_ hpk
        obtain ⟨hrp, hlp⟩ := Hpr.out p (List.mem_of_getElem? hpk)
        have hd := drop_get hpk
        have hn' := hcp.len
        have hdp : depthF p ≤ 200 := by have := depthN_le p.length p; have := ((right_iff _).1 hrp).2; unfold depthF; omega
        obtain ⟨hc, hf'⟩ := bcell hbr
        have hcall := Ih.out A' n' c' p wr (hcp.below hbr) hrp (by have := Hl.out; omega) (by omega)
        have Hcall := Lib.hid hcall
        have Hd := Lib.hid hd
        clear hcall hd hpk hn' hrp
        go_wp2_with (first | (go_at_call 18; go_must (refine Hcall.out.mono ?_); rintro e w2 ⟨rfl, hb2⟩; replace hbr := hbr.trans (hb2.mono hbr.size)))
        go_roundw
        case rel =>
          refine ⟨k + 1, max m (depthF p), by omega, by go_num, ?_, by omega, Lib.hid ?_, hbr⟩
          · split <;> (congr 1; omega)
          · have := hres.out
            rw [Hd.out, maxA_cons] at this
            exact this
        case measure => simp [intOf]; omega
      · go_wp2
        go_ret
        refine ⟨ret_int ?_, hb.trans (hbr.mono hb.size)⟩
        have := hres.out
        rw [drop_end Hnp.out hlt] at this
        rw [Hdeq.out, ← this]
        simp [maxA]

set_option maxHeartbeats 400000 in
theorem rDepth_fuel (fuel : Nat) : ∀ (A : Option Addr) (n cap : Nat) (t : List C) (w : World), IsC w A n cap t → rightB t = true → n ≤ fuel → fuel ≤ 200 →
    Calls Try.prog 19 #[.slice A n cap] w (RetV w (.int .i64 (depthF t))) := by
  induction fuel with
  | zero =>
    intro A n cap t w h hr hn _
    have := skip_pos ((right_iff _).1 hr).1
    have := h.len
    omega
  | succ fuel ih =>
    intro A n cap t w h hr hn hf
    have hdeq := depthF_eq hr
    have hpr : ∀ p ∈ partsF t, rightB p = true ∧ p.length < t.length := fun p hp => parts_right hr hp
    have hl := h.len
    have hp6 := parts_len hr
    have Ih := Lib.hid ih
    have Hdeq := Lib.hid hdeq
    have Hpr := Lib.hid hpr
    have Hl := Lib.hid hl
    have Hpar := Lib.hid (rParts_any A n cap t w h hr)
    clear ih hdeq hpr hl hr
    go_enter Try.func19, Try.ntmps19
    go_wp2_with (first | (go_at_call 27; go_must (refine Hpar.out.mono ?_); rintro e w1 ⟨Ap, np, cp, rfl, hcc, hb⟩))
    have hnp := hcc.len
    have hnp7 : np ≤ 200 := by omega
    have Hnp := Lib.hid hnp
    clear hnp
    go_loopw [4, 5] (fun o i wr => ∃ (k m : Nat), k ≤ np ∧ i = .int .i64 k ∧ o = .int .i64 m ∧ m ≤ 200 ∧ Hid (maxA depthF m ((partsF t).drop k) = maxA depthF 0 (partsF t)) ∧ Below w1.heap.size w1 wr) (fun _ i _ => np - (intOf i).toNat)
    case atStart => exact ⟨0, 0, by omega, rfl, rfl, by omega, rfl, Below.refl _ _⟩
    case round =>
      obtain ⟨k, m, hk, rfl, rfl, hm, hres, hbr⟩ := hrel
      by_cases hlt : k < np
      · obtain ⟨p, hpk⟩ := hcc.get hlt
        obtain ⟨b, off, A', n', c', rfl, hbb, h0, hcp⟩ := hcc.at_ hpk
        obtain ⟨hrp, hlp⟩ := Hpr.out p (List.mem_of_getElem? hpk)
        have hd := drop_get hpk
        have hn' := hcp.len
        have hdp : depthF p ≤ 200 := by have := depthN_le p.length p; have := ((right_iff _).1 hrp).2; unfold depthF; omega
        obtain ⟨hc, hf'⟩ := bcell hbr
        have hcall := Ih.out A' n' c' p wr (hcp.below hbr) hrp (by have := Hl.out; omega) (by omega)
        have Hcall := Lib.hid hcall
        have Hd := Lib.hid hd
        clear hcall hd hpk hn' hrp
        by_cases hmd : m < depthF p
        all_goals
          go_wp2_with (first | (go_at_call 19; go_must (refine Hcall.out.mono ?_); rintro e w2 ⟨rfl, hb2⟩; replace hbr := hbr.trans (hb2.mono hbr.size)))
        · go_roundw
          case rel =>
            refine ⟨k + 1, max m (depthF p), by omega, by go_num, by congr 1; omega, by omega, Lib.hid ?_, hbr⟩
            have := hres.out
            rw [Hd.out, maxA_cons] at this
            exact this
          case measure => simp [intOf]; omega
        · go_roundw
          case rel =>
            refine ⟨k + 1, max m (depthF p), by omega, by go_num, by congr 1; omega, by omega, Lib.hid ?_, hbr⟩
            have := hres.out
            rw [Hd.out, maxA_cons] at this
            exact this
          case measure => simp [intOf]; omega
      · go_wp2
        go_ret
        refine ⟨ret_int ?_, hb.trans (hbr.mono hb.size)⟩
        have := hres.out
        rw [drop_end Hnp.out hlt] at this
        rw [Hdeq.out, ← this]
        simp [maxA]

theorem tDepth_any (A : Option Addr) (n cap : Nat) (t : List C) (w : World) (h : IsC w A n cap t) (hr : rightB t = true) : Calls Try.prog 18 #[.slice A n cap] w (RetV w (.int .i64 (depthF t))) :=
  tDepth_fuel n A n cap t w h hr (Nat.le_refl _) (by rw [← h.len]; exact ((right_iff _).1 hr).2)
theorem rDepth_any (A : Option Addr) (n cap : Nat) (t : List C) (w : World) (h : IsC w A n cap t) (hr : rightB t = true) : Calls Try.prog 19 #[.slice A n cap] w (RetV w (.int .i64 (depthF t))) :=
  rDepth_fuel n A n cap t w h hr (Nat.le_refl _) (by rw [← h.len]; exact ((right_iff _).1 hr).2)
end Go.Proofs.Ytnhfnpjfahmmpaa
