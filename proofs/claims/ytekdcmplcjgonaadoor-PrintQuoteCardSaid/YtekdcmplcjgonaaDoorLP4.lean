/- PrintSigns' walk. -/
import Derived.Deep.CutBlock
import Derived.Test.YtekdcmplcjgonaaDoorCls6
import Derived.Test.YtekdcmplcjgonaaDoorSig
import Derived.Test.YtekdcmplcjgonaaDoorHead6
set_option linter.unusedVariables false
set_option linter.unusedSimpArgs false
namespace Go.Proofs.YtekdcmplcjgonaaDoor
open Go.RowKit

theorem okCl6 {c : Tm × List (Bool × Tm)} (h : okC6 c) : okCl c := ⟨h.1, by have := h.2.1; omega, fun p hp => ⟨(h.2.2.2.1 p hp).1, by have := (h.2.2.2.1 p hp).2.1; omega⟩, by have := h.2.2.2.2; omega⟩
theorem cnt10_take {S : List UInt8} {i : Nat} {c : UInt8} (h : S[i]? = some c) : cnt10 (S.take (i + 1)) = cnt10 (S.take i) + if c = 10 then 1 else 0 := by
  rw [take_snoc h, cnt10_append]
  congr 1
  unfold cnt10
  by_cases hc : c = 10 <;> simp [hc]
theorem cnt10_le (l : List UInt8) : cnt10 l ≤ l.length := by unfold cnt10; exact List.length_filter_le _ _
set_option maxRecDepth 100000 in
set_option maxHeartbeats 4000000 in
theorem printSigns_walk (B : Option Addr) (m d : Nat) (ls : List (List C × List (Bool × List C))) (w : World) (hB : IsRs w B m d ls) (htab : Tab w) :
    Calls Tryd.prog 8 #[.slice B m d] w (RetV w (.bool true)) := by
  have hhead := head06_any w htab
  have hcl := fun w' (hb : Below w.heap.size w w') => rClauses6_any B m d ls w' (IsG.below keepsRaw hB hb)
  have Hhead := Lib.hid hhead
  have Hcl := Lib.hid hcl
  have Htab := Lib.hid htab
  clear hhead hcl hB htab
  go_enter Tryd.func8, Tryd.ntmps8
  go_wp2_with fail
  refine Hhead.out.mono ?_
  rintro e w1 ⟨rfl, hb1⟩
  have h1z := hb1.size
  have H1 := Lib.hid hb1
  clear hb1
  go_wp2_with fail
  refine (Hcl.out _ H1.out).mono ?_
  rintro e w2 ⟨cs, A2, n2, c2, rfl, hcs, hok, hn2, hb2⟩
  have hb2' := H1.out.trans (hb2.mono h1z)
  have h2z := hb2'.size
  have hpr := pProgram_any A2 n2 c2 cs w2 hcs (fun c hc => okCl6 (hok c hc)) (by omega) (Htab.out.below hb2')
  have hpl := prPr_len cs (fun c hc => okCl6 (hok c hc))
  have hnc := hcs.len
  have hpl2 : (prPr cs).length ≤ 810001 * 6 := Nat.le_trans hpl (Nat.mul_le_mul (Nat.le_refl _) (by omega))
  have hsig := pr_lined cs (fun c hc => ⟨(hok c hc).1, fun p hp => ((hok c hc).2.2.2.1 p hp).1⟩)
  have Hcs := Lib.hid hcs
  have Hok := Lib.hid hok
  have Hb2 := Lib.hid hb2'
  have Hpr := Lib.hid hpr
  have Hsig := Lib.hid hsig
  clear hcs hok hb2 hb2' hpr hpl hsig H1 Hcl Hhead
  go_wp2_with fail
  refine Hpr.out.mono ?_
  rintro e w3 ⟨rfl, hb3⟩
  have hb3' := Hb2.out.trans (hb3.mono h2z)
  have h3z := hb3'.size
  have h23z := hb3.size
  have Hcs3 := Lib.hid (IsG.below keepsRC Hcs.out hb3)
  have Hb3 := Lib.hid hb3'
  clear hb3 hb3' Hcs Hpr Hb2
  go_wp2
  go_loopw [5, 7] (fun av iv wr => ∃ k : Nat, iv = .int .i64 k ∧ av = .string ⟨(prPr (cs.take k)).toArray⟩ ∧ k ≤ n2 ∧ Below w3.heap.size w3 wr) (fun _ iv _ => n2 - (intOf iv).toNat)
  case atStart => exact ⟨0, rfl, rfl, Nat.zero_le _, Below.refl _ _⟩
  case round =>
    obtain ⟨k, rfl, rfl, hk, hb⟩ := hrel
    have hwz := hb.size
    by_cases hlt : k < n2
    · obtain ⟨x, hx⟩ := Hcs3.out.get hlt
      obtain ⟨bq, off, A, n, cp, B', m', d', rfl, hbq, g0', g1', hi1, hi2⟩ := rc_at Hcs3.out hx
      have g0 := (hb.cell (p := ⟨bq, off + k * 2, none⟩) hbq).trans g0'
      have g1 := (hb.cell (p := ⟨bq, off + k * 2 + 1, none⟩) hbq).trans g1'
      have hbq2 : bq < wr.heap.size := Nat.lt_of_lt_of_le hbq hwz
      have hokx := okCl6 (Hok.out x (List.mem_of_getElem? hx))
      have hml := hi2.len
      have hcl := pClause_any A n cp x.1 B' m' d' x.2 wr (hi1.below hb) hokx.1 hokx.2.1 (hi2.below keepsRL hb) hokx.2.2.1 (by have := hokx.2.2.2; omega) (Htab.out.below (Hb3.out.trans (hb.mono h3z)))
      have hsn := congrArg prPr (take_snoc hx)
      rw [prPr_snoc] at hsn
      have hp1 := prPr_len (cs.take k) (fun q hq => okCl6 (Hok.out q (List.mem_of_mem_take hq)))
      have hp2 : (prPr (cs.take k)).length ≤ 810001 * 6 := Nat.le_trans hp1 (Nat.mul_le_mul (Nat.le_refl _) (by rw [List.length_take]; omega))
      have hp3 := prCl_len hokx
      have hxx : (x.1, x.2) = x := rfl
      obtain ⟨XC, hXC⟩ : ∃ Y, prCl x = Y := ⟨_, rfl⟩
      obtain ⟨L, hL⟩ : ∃ Y, prPr (cs.take k) = Y := ⟨_, rfl⟩
      rw [hxx, hXC] at hcl
      rw [hXC] at hp3 hsn
      rw [hL] at hp2 hsn ⊢
      have Hcl := Lib.hid hcl
      have Hsn := Lib.hid hsn
      have Hb := Lib.hid hb
      clear g0' g1' hbq hokx hml hcl hsn hp1 hxx hXC hL hx hi1 hi2 hb
      go_wp2_with fail
      refine Hcl.out.mono ?_
      rintro e w4 ⟨rfl, hb4⟩
      go_wp2
      go_roundw
      case rel => exact ⟨k + 1, by go_num, by rw [Hsn.out]; exact congrArg Value.string ((cat3 L XC [10]).trans (by rw [List.append_assoc])), by omega, Hb.out.trans (hb4.mono hwz)⟩
      case measure => simp [intOf]; omega
    · obtain rfl : k = n2 := by omega
      have htk : cs.take k = cs := List.take_of_length_le (by omega)
      rw [htk]
      obtain ⟨S, hS⟩ : ∃ S : ByteArray, ⟨(prPr cs).toArray⟩ = S := ⟨_, rfl⟩
      have hSl : S.data.toList = prPr cs := by rw [← hS]
      have hSz : S.size = (prPr cs).length := by rw [← hS]; rfl
      have hsig := Hsig.out
      rw [← hSl] at hsig
      rw [hS]
      have Hlin := Lib.hid hsig.1
      have Hcnt := Lib.hid hsig.2
      have hfb := Hb3.out.trans (hb.mono h3z)
      have Hfb := Lib.hid hfb
      have hS6 : S.size ≤ 5000000 := by omega
      have HnC := Lib.hid hnc
      clear hS hSl hSz hsig htk hfb hb hwz hlt hnc hpl2 Hsig
      obtain ⟨wo, hwo⟩ : ∃ z, z = wr := ⟨_, rfl⟩
      subst hwo
      go_wp2
      go_loopw [6, 8] (fun mv iv wx => ∃ i : Nat, iv = .int .i64 i ∧ mv = .int .i64 (cnt10 (S.data.toList.take i)) ∧ i ≤ S.size ∧ wx = wo) (fun _ iv _ => S.size - (intOf iv).toNat)
      case atStart => exact ⟨0, rfl, rfl, Nat.zero_le _, by first | rfl | trivial⟩
      case round =>
        obtain ⟨i, rfl, rfl, hi, rfl⟩ := hrel
        by_cases hlt : i < S.size
        · have hlt' : decide ((i : Int) < (S.size : Int)) = true := by simpa using hlt
          obtain ⟨x, hx⟩ : ∃ x, S[i] = x := ⟨_, rfl⟩
          have hg := str_get S hlt
          rw [hx] at hg
          have hct := cnt10_take hg
          have hle := cnt10_le (S.data.toList.take i)
          rw [List.length_take] at hle
          have hcm : cnt10 (S.data.toList.take i) ≤ 5000000 := by omega
          obtain ⟨q, hq⟩ : ∃ q, cnt10 (S.data.toList.take i) = q := ⟨_, rfl⟩
          rw [hq] at hct hcm ⊢
          rcases Hlin.out i x hg with ⟨hx10, hi0, hp⟩ | ⟨hx10, hv⟩
          · subst hx10
            rw [if_pos rfl] at hct
            obtain ⟨j, rfl⟩ : ∃ j, i = j + 1 := ⟨i - 1, by omega⟩
            rw [Nat.add_sub_cancel] at hp
            have hj : j < S.size := by omega
            have hg2 := str_get S hj
            rw [hp] at hg2
            have hsj : (S[j].toNat : Int) = 46 := by rw [← Option.some.inj hg2]; rfl
            have hsi : (S[j + 1].toNat : Int) = 10 := by rw [hx]; rfl
            have t1 : decide ((0 : Int) < (j : Int) + 1) = true := decide_eq_true (by omega)
            have Hct := Lib.hid hct
            clear hx hg hct hle hq hp hg2 Hlin
            go_wp2
            all_goals
              go_roundw
              case rel => exact ⟨j + 1 + 1, by go_num, by rw [Hct.out]; go_num, by omega, by first | rfl | trivial⟩
              case measure => simp [intOf]; omega
          · rw [if_neg hx10, Nat.add_zero] at hct
            obtain ⟨z, hz⟩ : ∃ z : Int, (x.toNat : Int) = z := ⟨_, rfl⟩
            have hzi : (S[i].toNat : Int) = z := by rw [hx]; exact hz
            have hv2 := (vis_iff x).1 hv
            have z1 : (z == 10) = false := by
              rw [← Bool.not_eq_true, beq_iff_eq]
              intro e
              exact hx10 (UInt8.toNat_inj.1 (by have : (10 : UInt8).toNat = 10 := rfl; omega))
            have z2 : decide (z < 32) = false := decide_eq_false (by omega)
            have z3 : decide ((126 : Int) < z) = false := decide_eq_false (by omega)
            have Hct := Lib.hid hct
            clear hx hg hct hle hq hv hv2 hz hx10 Hlin
            go_wp2
            all_goals
              go_roundw
              case rel => exact ⟨i + 1, by go_num, by rw [Hct.out, Nat.add_zero], by omega, by first | rfl | trivial⟩
              case measure => simp [intOf]; omega
        · obtain rfl : i = S.size := by omega
          have hall : cnt10 (S.data.toList.take S.size) = k := by rw [List.take_of_length_le (by simp), Hcnt.out, HnC.out]
          rw [hall]
          clear hall
          go_wp2
          go_ret
          exact ⟨rfl, Hfb.out⟩
end Go.Proofs.YtekdcmplcjgonaaDoor
