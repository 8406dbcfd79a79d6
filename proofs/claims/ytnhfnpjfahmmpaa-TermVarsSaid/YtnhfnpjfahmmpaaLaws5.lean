/- The walk of the law TermVars. -/
import Derived.StillTailTactics
import Derived.Test.YtnhfnpjfahmmpaaLaws1
import Derived.Test.YtnhfnpjfahmmpaaPlain2
import Derived.Test.YtnhfnpjfahmmpaaVarsOwn
import Derived.Test.YtnhfnpjfahmmpaaLaws4
namespace Go.Proofs.Ytnhfnpjfahmmpaa
open Go.RowKit
theorem vars_parts {c : C} {cs : List C} (h : rightB (c :: cs) = true) (hk : c.kind ≠ 1) : varsA [] (partsF (c :: cs)).flatten = varsF (c :: cs) := by
  rw [vars_fun cs hk]
  by_cases hk3 : c.kind = 3
  · rw [(parts_splits h hk3).flat.1]; rfl
  · rw [parts_other hk3, alone h hk3]; rfl

set_option maxRecDepth 100000 in
set_option maxHeartbeats 4000000 in
theorem termVars_walk (A : Option Addr) (n cap : Nat) (t : List C) (w : World) (h : IsC w A n cap t) : Calls Try.prog 8 #[.slice A n cap] w (RetV w (.bool true)) := by
  have hm1 : n ≤ maxLen := Nat.le_trans h.sl.hcap h.sl.hmax
  by_cases g1 : 300 < n
  · have G1 := Lib.hid (decide_eq_true g1)
    go_enter Try.func8, Try.ntmps8
    go_wp2_with (first | (go_at_call 12; go_must (refine (head_any _).mono ?_); rintro e w1 ⟨rfl, hb⟩) | (go_at_call 13; go_must (refine Calls.mono (great_any _ _ _ _ (by assumption)) ?_); rw [G1.out]; rintro e w1 ⟨rfl, rfl⟩))
    go_ret
    exact ⟨rfl, hb⟩
  have G1 := Lib.hid (decide_eq_false g1)
  cases r1 : rightB t
  · have R1 := Lib.hid r1
    clear r1
    go_enter Try.func8, Try.ntmps8
    go_wp2_with (first | (go_at_call 12; go_must (refine (head_any _).mono ?_); rintro e w1 ⟨rfl, hb⟩) | (go_at_call 13; go_must (refine Calls.mono (great_any _ _ _ _ (by assumption)) ?_); rw [G1.out]; rintro e w1 ⟨rfl, rfl⟩) | (go_at_call 14; go_must (refine Calls.mono (tRight_any _ _ _ _ _ (h.below hb) (by omega)) ?_); rw [R1.out]; rintro e w1 ⟨rfl, hbn⟩; replace hb := hb.trans (hbn.mono hb.size); clear hbn))
    go_ret
    exact ⟨rfl, hb⟩
  have R1 := Lib.hid r1
  have hp6 := parts_len r1
  have hl := h.len
  have hl1 := skip_pos ((right_iff _).1 r1).1
  obtain ⟨vn, hvn⟩ : ∃ vn, (varsF t).length = vn := ⟨_, rfl⟩
  have HVL := Lib.hid hvn
  have hvn1 : vn ≤ n := by rw [← hvn, ← hl]; exact varsF_len t
  have hgv : groundF t = (vn == 0) := by rw [ground_vars, hvn]
  match t, hl1 with
  | c :: cs, _ =>
    have hc0 : (c :: cs)[0]? = some c := rfl
    obtain ⟨b, off, rfl, hbb, hwf, h0, h1, h2⟩ := h.at_ hc0
    simp only [Nat.zero_mul, Nat.add_zero] at h0 h1 h2
    have hn0 : (0 : Int) < (n : Int) := by simp at hl; omega
    have HG := Lib.hid hgv
    by_cases hk : c.kind = 1
    · have hbk : (c.kind == 1) = true := by simp [hk]
      have hcs := alone r1 (by omega)
      subst hcs
      have hv : varsF [c] = [c.n] := by simp [varsF, varsA, hk, inI]
      obtain rfl : n = 1 := by rw [← hl]; rfl
      obtain rfl : vn = 1 := by rw [← hvn, hv]; rfl
      have hgf : groundF [c] = false := by rw [hgv]; rfl
      have HGF := Lib.hid hgf
      have HV := Lib.hid hv
      clear r1 hvn hl hc0 hv hgv hk hgf
      go_enter Try.func8, Try.ntmps8
      go_wp2_with (first | (go_at_call 12; go_must (refine (head_any _).mono ?_); rintro e w1 ⟨rfl, hb⟩) | (go_at_call 13; go_must (refine Calls.mono (great_any _ _ _ _ (by assumption)) ?_); rw [G1.out]; rintro e w1 ⟨rfl, rfl⟩) | (go_at_call 14; go_must (refine Calls.mono (tRight_any _ _ _ _ _ (h.below hb) (by omega)) ?_); rw [R1.out]; rintro e w1 ⟨rfl, hbn⟩; replace hb := hb.trans (hbn.mono hb.size); clear hbn) | (go_at_call 21; go_must (refine Calls.mono (tVars_any _ _ _ _ _ (h.below hb) (by omega)) ?_); intro e w1 hret; obtain ⟨V1, vc1, rfl, hV1, hbn⟩ := hret.at_ HVL.out; clear hret; replace hb := hb.trans (hbn.mono hb.size); clear hbn; obtain ⟨hc, hf⟩ := bcell hb))
      have hv0 : (varsF [c])[0]? = some c.n := by rw [HV.out]; rfl
      obtain ⟨b', off', rfl, hbb', _, h0'⟩ := hV1.at_ hv0
      simp only [Nat.add_zero] at h0'
      have b0 : w1.cell? ⟨b, off, none⟩ = some (.int .i64 c.kind) := (hc b _ hbb).trans h0
      have b2 : w1.cell? ⟨b, off + 2, none⟩ = some (.int .i64 c.n) := (hc b _ hbb).trans h2
      go_still_tail 17, (by kernel_rfl)
      change wpList _ _ _ _ _ w1.drew
      replace hb := hb.drew
      generalize w1.drew = w2 at hb ⊢
      go_wp2_with (first | (go_at_call 23; go_must (refine Calls.mono (tGround_any _ _ _ _ _ (h.below hb) (by omega)) ?_); rw [HGF.out]; rintro e w1 ⟨rfl, hbn⟩; replace hb := hb.trans (hbn.mono hb.size); clear hbn))
      go_ret
      exact ⟨rfl, hb⟩
    · have hbk : (c.kind == 1) = false := by simp [hk]
      have hvp := vars_parts r1 hk
      have HVP := Lib.hid hvp
      have hgl : groundF (c :: cs) = ((vn : Int) == 0) := by
        rw [hgv, Bool.eq_iff_iff]
        simp
      have HGL := Lib.hid hgl
      clear r1 hvn hl hc0 hgv hk hgl hvp
      go_enter Try.func8, Try.ntmps8
      go_wp2_with (first | (go_at_call 12; go_must (refine (head_any _).mono ?_); rintro e w1 ⟨rfl, hb⟩) | (go_at_call 13; go_must (refine Calls.mono (great_any _ _ _ _ (by assumption)) ?_); rw [G1.out]; rintro e w1 ⟨rfl, rfl⟩) | (go_at_call 14; go_must (refine Calls.mono (tRight_any _ _ _ _ _ (h.below hb) (by omega)) ?_); rw [R1.out]; rintro e w1 ⟨rfl, hbn⟩; replace hb := hb.trans (hbn.mono hb.size); clear hbn) | (go_at_call 21; go_must (refine Calls.mono (tVars_any _ _ _ _ _ (h.below hb) (by omega)) ?_); intro e w1 hret; obtain ⟨V1, vc1, rfl, hV1, hbn⟩ := hret.at_ HVL.out; clear hret; replace hb := hb.trans (hbn.mono hb.size); clear hbn; obtain ⟨hc, hf⟩ := bcell hb) | (go_at_call 26; go_must (refine Calls.mono (tParts_any _ _ _ _ _ (h.below (by repeat (first | assumption | exact Below.refl _ _ | refine Below.drew ?_ | refine below_drewN ?_ _ | refine Below.alloc ?_ ?_ _ | refine Below.setCell ?_ ?_ _ | (apply Below.size; assumption) | (simp; done) | (simp; omega) | (have hz := hb.size; simp; omega) | (have hz := hb.size; omega) | omega))) R1.out) ?_); rintro e w3 ⟨Ap, np, cp, rfl, hp, hbn⟩; have hw13 : w1.heap.size < w3.heap.size := (by have := hbn.size; simp at this; omega); have hb13 : Below w1.heap.size w1 w3 := Below.trans (B := w1.heap.size) (by repeat (first | assumption | exact Below.refl _ _ | refine Below.drew ?_ | refine below_drewN ?_ _ | refine Below.alloc ?_ ?_ _ | refine Below.setCell ?_ ?_ _ | (apply Below.size; assumption) | (simp; done) | (simp; omega) | (have hz := hb.size; simp; omega) | (have hz := hb.size; omega) | omega)) (hbn.mono (by simp)); clear hbn; replace hb := hb.trans (hb13.mono hb.size); replace hV1 := hV1.below hb13))
      have hnp := hp.len
      have hnp6 : np ≤ 6 := by omega
      have Hnp := Lib.hid hnp
      clear hnp hc hf
      have hall : Hid (∀ p ∈ partsF (c :: cs), p.length ≤ 200) := Lib.hid fun p hp => ((right_iff _).1 (parts_right R1.out hp).1).2
      go_loopw [5, 7] (fun o i wr => ∃ (k m c' : Nat) (Ao : Option Addr) (acc : List Int), k ≤ np ∧ i = .int .i64 k ∧ o = .slice Ao m c' ∧ m ≤ k * 200 ∧ Own0 wr w3.heap.size 3 1 (.slice Ao m c') m (acc.map (Value.int .i64)) ∧ (∀ x ∈ acc, i64 x) ∧ Hid (varsA [] ((partsF (c :: cs)).take k).flatten = acc) ∧ Below w3.heap.size w3 wr ∧ (∀ a, Ao = some a → a.block < wr.heap.size)) (fun _ i _ => np - (intOf i).toNat)
      case atStart => exact ⟨0, 0, 0, _, [], Nat.zero_le _, rfl, rfl, Nat.zero_le _, .inl ⟨_, rfl, rfl, rfl⟩, by simp, Lib.hid rfl, (by repeat (first | assumption | exact Below.refl _ _ | refine Below.drew ?_ | refine below_drewN ?_ _ | refine Below.alloc ?_ ?_ _ | refine Below.setCell ?_ ?_ _ | (apply Below.size; assumption) | (simp; done) | (simp; omega) | (have hz := hb.size; simp; omega) | (have hz := hb.size; omega) | omega)), by intro a ha; cases ha; exact hw13⟩
      case round =>
        obtain ⟨k, m, c', Ao, acc, hk, rfl, rfl, hm, hown, hwa, hres, hbr, hlt0⟩ := hrel
        by_cases hlt : k < np
        · obtain ⟨p, hpk⟩ := hp.get hlt
          obtain ⟨b', off', A', n', c'', rfl, hbb', h0', hcp⟩ := hp.at_ hpk
          have hpl := hcp.len
          have hp1 : n' ≤ 200 := by rw [← hpl]; exact hall.out p (List.mem_of_getElem? hpk)
          obtain ⟨wn, hwn⟩ : ∃ wn, (varsF p).length = wn := ⟨_, rfl⟩
          have hwn1 : wn ≤ 200 := by have := varsF_len p; omega
          have HWN := Lib.hid hwn
          have Hpk := Lib.hid hpk
          clear hpk hwn hpl
          obtain ⟨hc, hf⟩ := bcell hbr
          have hbw := Nat.lt_of_lt_of_le hbb' hbr.size
          have hvp1 : ∀ wr', varsA [] ((partsF (c :: cs)).take (k + 1)).flatten = wr' ↔ mergeV acc (varsF p) = wr' := fun wr' => by rw [vars_flat _ _ _ _ Hpk.out, hres.out]
          have HVP1 := Lib.hid hvp1
          clear hvp1 Hpk hres
          go_wp2_with (first | (go_at_call 21; go_must (refine Calls.mono (tVars_own _ _ _ p _ (hcp.below hbr) (by omega)) ?_); rintro e w4 ⟨W1, wn', wc1, rfl, hoW, hwW, hbn⟩; obtain rfl : wn' = wn := by (have := hoW.1; simp at this; rw [← HWN.out, this])))
          have hW1 : IsI w4 W1 wn' wc1 (varsF p) := ⟨Sl.own hoW (by omega), hwW⟩
          have hsep : ∀ a a', Ao = some a → W1 = some a' → a.block ≠ a'.block := fun a a' h1 h2 => by have := hlt0 a h1; have := Own0.lt hoW a' h2; omega
          have hown4 := hown.below hbn
          have hbr4 := hbr.trans (hbn.mono hbr.size)
          have hlt4 : ∀ a, Ao = some a → a.block < w4.heap.size := fun a h1 => Nat.lt_of_lt_of_le (hlt0 a h1) hbn.size
          clear hbn hc hf hoW hwW hown hbr hlt0
          go_loopw [5, 9] (fun o i wr => ∃ (j m2 c2 : Nat) (A2 : Option Addr) (acc2 : List Int), j ≤ wn' ∧ i = .int .i64 j ∧ o = .slice A2 m2 c2 ∧ m2 ≤ m + j ∧ Own0 wr w3.heap.size 3 1 (.slice A2 m2 c2) m2 (acc2.map (Value.int .i64)) ∧ (∀ x ∈ acc2, i64 x) ∧ Hid (mergeV acc2 ((varsF p).drop j) = mergeV acc (varsF p)) ∧ Below w3.heap.size w3 wr ∧ (∀ a, A2 = some a → a.block < wr.heap.size) ∧ IsI wr W1 wn' wc1 (varsF p) ∧ (∀ a a', A2 = some a → W1 = some a' → a.block ≠ a'.block)) (fun _ i _ => wn' - (intOf i).toNat)
          case atStart => exact ⟨0, m, c', Ao, acc, Nat.zero_le _, rfl, rfl, by omega, hown4, hwa, Lib.hid rfl, hbr4, hlt4, hW1, hsep⟩
          case round =>
            obtain ⟨j, m2, c2, A2, acc2, hj, rfl, rfl, hm2, hown2, hwa2, hres2, hbr, hltr, hWr, hsepr⟩ := hrel
            have hacc2 : IsI wr A2 m2 c2 acc2 := ⟨Own0.sl hown2 (by omega), hwa2⟩
            by_cases hlt2 : j < wn'
            · obtain ⟨x, hxj⟩ := hWr.get hlt2
              obtain ⟨bW, offW, rfl, hbW, hwx, hx0⟩ := hWr.at_ hxj
              have hd := drop_get hxj
              have Hd := Lib.hid hd
              clear hxj hd
              have hcon := In_any A2 m2 c2 acc2 x
              cases hin : inI acc2 x
              · rw [hin] at hcon
                have Hcon := Lib.hid hcon
                have Hin := Lib.hid hin
                clear hcon hin
                go_wp2_with (first
                  | (go_at_call 36; go_must (refine (Hcon.out _ hacc2 (by omega)).mono ?_); rintro e w1 ⟨rfl, rfl⟩)
                  | (at_builtin; go_must (refine wpList_append_own1 rfl (.tmp 74) (.tmp 79) 28 rfl w3.heap.size 3 Try.underlying28 infoI rfl (by omega) rfl (hown2.below (by repeat (first | assumption | exact Below.refl _ _ | refine Below.drew ?_ | refine below_drewN ?_ _ | refine Below.alloc ?_ ?_ _ | refine Below.setCell ?_ ?_ _ | (apply Below.size; assumption) | (simp; done) | (simp; omega) | (have hz := hb.size; simp; omega) | (have hz := hb.size; omega) | omega))) rfl (Sl.lit _ _ [.int .i64 x] 3 1 1 (by simp) rfl (by simp [maxLen])) (one1 rfl) (by omega) (by omega) (by omega) (by have := hbr.size; simp; omega) ?_); intro A' cap' w5 hown5 hb5 hap))
                have hb6 : Below w3.heap.size w3 w5 := Below.trans (by repeat (first | assumption | exact Below.refl _ _ | refine Below.drew ?_ | refine below_drewN ?_ _ | refine Below.alloc ?_ ?_ _ | refine Below.setCell ?_ ?_ _ | (apply Below.size; assumption) | (simp; done) | (simp; omega) | (have hz := hb.size; simp; omega) | (have hz := hb.size; omega) | omega)) hb5
                have hW5 : IsI w5 (some ⟨bW, offW, none⟩) wn' wc1 (varsF p) := (hWr.below (by repeat (first | assumption | exact Below.refl _ _ | refine Below.drew ?_ | refine below_drewN ?_ _ | refine Below.alloc ?_ ?_ _ | refine Below.setCell ?_ ?_ _ | (apply Below.size; assumption) | (simp; done) | (simp; omega) | (have hz := hb.size; simp; omega) | (have hz := hb.size; omega) | omega))).apart hap hsepr
                have hblk := hap.blk
                clear hap hb5
                go_roundw
                case rel =>
                  refine ⟨j + 1, m2 + 1, cap', A', acc2 ++ [x], by omega, by go_num, rfl, by omega, .inr (by simpa using hown5), ?_, Lib.hid ?_, hb6, fun a h => (hblk a h).1, hW5, ?_⟩
                  · intro y hy
                    rcases List.mem_append.1 hy with hy | hy
                    · exact hwa2 y hy
                    · simp at hy; subst hy; exact hwx
                  · have := hres2.out
                    rw [Hd.out, mergeV_step, if_neg (by simp [Hin.out])] at this
                    exact this
                  · rintro a a' ha ha'
                    cases ha'
                    rcases (hblk a ha).2 with ⟨a0, h0, h1⟩ | h1
                    · rw [h1]; exact hsepr a0 _ h0 rfl
                    · simp at h1 ⊢; omega
                case measure => simp [intOf]; omega
              · rw [hin] at hcon
                have Hcon := Lib.hid hcon
                have Hin := Lib.hid hin
                clear hcon hin
                go_wp2_with (first
                  | (go_at_call 36; go_must (refine (Hcon.out _ hacc2 (by omega)).mono ?_); rintro e w1 ⟨rfl, rfl⟩))
                go_roundw
                case rel =>
                  refine ⟨j + 1, m2, c2, A2, acc2, by omega, by go_num, rfl, by omega, hown2, hwa2, Lib.hid ?_, hbr, hltr, hWr, hsepr⟩
                  have := hres2.out
                  rw [Hd.out, mergeV_step, if_pos Hin.out] at this
                  exact this
                case measure => simp [intOf]; omega
            · have hacc3 : acc2 = mergeV acc (varsF p) := by
                have := hres2.out
                rw [drop_end HWN.out hlt2] at this
                exact this
              have Hacc3 := Lib.hid hacc3
              clear hacc3 hres2
              go_wp2
              go_roundw
              case rel => exact ⟨k + 1, m2, c2, A2, acc2, by omega, by go_num, rfl, by omega, hown2, hwa2, Lib.hid ((HVP1.out _).2 Hacc3.out.symm), hbr, hltr⟩
              case measure => simp [intOf]; omega
        · have hacc : acc = varsF (c :: cs) := by
            have := hres.out
            rw [List.take_of_length_le (by have := Hnp.out; omega), HVP.out] at this
            exact this.symm
          subst hacc
          have hV2 : IsI wr Ao m c' (varsF (c :: cs)) := ⟨Own0.sl hown (by omega), hwa⟩
          have hb := hb.trans (hbr.mono hb.size)
          have hV1 := hV1.below hbr
          clear hres hown hwa hbr hlt0 hall hp
          go_wp2_with (first
            | (go_at_call 20; go_must (refine Calls.mono (ints_v _ _ _ _ _ _ _ _ _ hV1 hV2 (by omega) (by omega)) ?_); rw [(sameI_iff _ _).2 rfl]; clear hV1 hV2; rintro e w1 ⟨rfl, hbn⟩; replace hb := hb.trans (hbn.mono hb.size); clear hbn)
            | (go_at_call 23; go_must (refine Calls.mono (tGround_any _ _ _ _ _ (h.below hb) (by omega)) ?_); rw [HGL.out]; rintro e w1 ⟨rfl, hbn⟩; replace hb := hb.trans (hbn.mono hb.size); clear hbn))
          go_ret
          exact ⟨ret_bool (by simp), hb⟩
end Go.Proofs.Ytnhfnpjfahmmpaa
