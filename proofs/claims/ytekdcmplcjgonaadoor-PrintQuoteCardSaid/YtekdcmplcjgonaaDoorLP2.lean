/- PrintLists' walk. -/
import Derived.Deep.CutBlock
import Derived.Test.YtekdcmplcjgonaaDoorRT
import Derived.Test.YtekdcmplcjgonaaDoorLst
import Derived.Test.YtekdcmplcjgonaaDoorLP1
import Derived.Test.YtekdcmplcjgonaaDoorHead6
set_option linter.unusedVariables false
set_option linter.unusedSimpArgs false
namespace Go.Proofs.YtekdcmplcjgonaaDoor
open Go.RowKit

theorem eqC_dot (T : Tm) : T.c0.beq ⟨3, ⟨#[46]⟩, 2⟩ = true ↔ isDot T := by
  rw [← dot_iff]
  simp [C.beq, ByteArray.toList_eq]
theorem lit_text (l : List UInt8) : (⟨(91 :: (l ++ [93])).toArray⟩ : ByteArray) = ⟨#[91]⟩ ++ ⟨l.toArray⟩ ++ ⟨#[93]⟩ := by apply ByteArray.ext; simp
theorem bar_text (l e : List UInt8) : (⟨(91 :: (l ++ 124 :: (e ++ [93]))).toArray⟩ : ByteArray) = ⟨#[91]⟩ ++ ⟨l.toArray⟩ ++ ⟨#[124]⟩ ++ ⟨e.toArray⟩ ++ ⟨#[93]⟩ := by apply ByteArray.ext; simp
set_option maxRecDepth 100000 in
set_option maxHeartbeats 4000000 in
theorem printLists_walk (B : Option Addr) (m d : Nat) (ls : List (List C)) (A : Option Addr) (n cap : Nat) (cs : List C) (w : World) (hB : IsCC w B m d ls) (hA : IsC w A n cap cs) (htab : Tab w) :
    Calls Tryd.prog 10 #[.slice B m d, .slice A n cap] w (RetV w (.bool true)) := by
  have hhead := head06_any w htab
  have hmade := fun w' (hb : Below w.heap.size w w') => rMade_any A n cap cs w' (hA.below hb) 8 (by omega) (by omega)
  have Hhead := Lib.hid hhead
  have Hmade0 := Lib.hid hmade
  have HB := Lib.hid hB
  have Htab := Lib.hid htab
  have hlen := hB.len
  clear hhead hmade hB htab hA
  go_enter Tryd.func10, Tryd.ntmps10
  go_wp2_with fail
  refine Hhead.out.mono ?_
  rintro e w1 ⟨rfl, hb1⟩
  have h1z := hb1.size
  have hal : Below w.heap.size w (w1.alloc (.cells #[.int .i64 3, .string ⟨#[91, 93]⟩, .int .i64 0] 66)) := hb1.alloc h1z _
  have hn1 : IsC (w1.alloc (.cells #[.int .i64 3, .string ⟨#[91, 93]⟩, .int .i64 0] 66)) (some ⟨w1.heap.size, 0, none⟩) 1 1 hN.flat := by
    rw [show hN.flat = [cN] from ft5]
    exact isC_lit (l := [cN]) (alloc_at rfl) rfl rfl (by omega) (wfs (by decide))
  have Hal := Lib.hid hal
  have Hn1 := Lib.hid hn1
  clear hal hn1 hb1
  go_upto_region 4 with (go_at_call 12; refine (Hmade0.out _ Hal.out).mono ?_; rintro e X ⟨E0, A0, n0, c0, rfl, hok0, hsz0, hi0, hb2, _⟩)
  have hbX := Hal.out.trans (hb2.mono (by simp; omega))
  have hn := Hn1.out.below hb2
  obtain ⟨b0, off0, rfl, hb0, hw0, k0, k1, k2⟩ := hi0.at_ (flat_get0 E0)
  rw [Nat.zero_mul, Nat.add_zero] at k0 k1 k2
  have hn0 : 0 < n0 := by have := hi0.len; rw [flat_size] at this; have := E0.size_pos; omega
  have hq := eqC E0.c0 ⟨3, ⟨#[46]⟩, 2⟩
  have Hi0 := Lib.hid hi0
  have Hok0 := Lib.hid hok0
  have HbX0 := Lib.hid hbX
  have Hn0 := Lib.hid hn
  clear hi0 hok0 hb2 hbX hn Hal Hn1
  by_cases hd : isDot E0
  · have hqb := (eqC_dot E0).2 hd
    rw [hqb] at hq
    clear hd
    go_upto_region 7 with fail
    have hbX := HbX0.out
    have hn := Hn0.out
    have hE := Hn0.out
    have hEok : hN.ok = true := by decide
    have hEsz : hN.size ≤ 8 := by decide
    have hEd : ¬ isDot hN := by rintro ⟨s, a, b, h, _⟩; cases h
    obtain ⟨E, hEE⟩ : ∃ E, hN = E := ⟨_, rfl⟩
    rw [hEE] at hE hEok hEsz hEd
    clear hEE
    clear hq hqb
    have hXz := hbX.size
    have HbX := Lib.hid hbX
    have HE := Lib.hid hE
    have Hn := Lib.hid hn
    have HEok := Lib.hid hEok
    have HEd := Lib.hid hEd
    clear hbX hE hn hEok hEd
    go_wp2
    go_loopw [7, 8, 9, 10] (fun tv uv sv iv wr => ∃ (k nT cT nU cU : Nat) (AT AU : Option Addr) (its : List Tm), iv = .int .i64 k ∧ tv = .slice AT nT cT ∧ uv = .slice AU nU cU ∧ sv = .string ⟨(prA its).toArray⟩ ∧ its.length = k ∧ k ≤ m ∧ k ≤ 8 ∧ Hid (IsC wr AT nT cT (lstT its hN).flat) ∧ Hid (IsC wr AU nU cU (lstT its E).flat) ∧ Hid (∀ U ∈ its, U.ok = true ∧ U.size ≤ 8) ∧ Below X.heap.size X wr) (fun _ _ _ iv _ => m - (intOf iv).toNat)
    case atStart => exact ⟨0, _, _, _, _, _, _, [], rfl, rfl, rfl, rfl, rfl, Nat.zero_le _, Nat.zero_le _, Hn, HE, Lib.hid (by simp), Below.refl _ _⟩
    case round =>
      obtain ⟨k, nT, cT, nU, cU, AT, AU, its, rfl, rfl, rfl, rfl, hl, hk1, hk2, hT, hU, hits, hbr⟩ := hrel
      have hb : Below w.heap.size w wr := HbX.out.trans (hbr.mono hXz)
      have hwz := hb.size
      by_cases hin : k < m ∧ k < 8
      · obtain ⟨h1, h2⟩ := hin
        have t1 : decide ((k : Int) < (m : Int)) = true := decide_eq_true (by omega)
        have t2 : decide ((k : Int) < 8) = true := decide_eq_true (by omega)
        obtain ⟨p, hp⟩ := HB.out.get h1
        obtain ⟨bq, off, A', n', c', rfl, hbq, g0', hi'⟩ := HB.out.at_ hp
        have g0 := (hb.cell (p := ⟨bq, off + k, none⟩) hbq).trans g0'
        have hbq2 : bq < wr.heap.size := Nat.lt_of_lt_of_le hbq hwz
        have hmade := rMade_any A' n' c' p wr (hi'.below hb) 8 (by omega) (by omega)
        have Hmade := Lib.hid hmade
        have Hb := Lib.hid hb
        have Hbr := Lib.hid hbr
        have hrz := hbr.size
        clear g0' hi' hp hmade hb hbr
        go_upto_region 11 with (go_at_call 12; refine Hmade.out.mono ?_; rintro e w3 ⟨T, AX, nX, cX, rfl, okT, szT, hiT, hb3, _⟩)
        have hr3 := Hbr.out.trans (hb3.mono hrz)
        have hr3z := hr3.size
        have hits2 : ∀ U ∈ T :: its, U.ok = true ∧ U.size ≤ 8 := fun U hU => by
          rcases List.mem_cons.1 hU with rfl | h
          · exact ⟨okT, szT⟩
          · exact hits.out U h
        have hokl : ∀ U ∈ its, U.ok = true := fun U hU => (hits.out U hU).1
        have hszl := sizes_le (fun U hU => (hits.out U hU).2)
        have hok1 := lst_ok hokl (E := hN) (by decide)
        have hok2 := lst_ok hokl HEok.out
        have hs1 := lst_size its hN
        have hs2 := lst_size its E
        rw [show hN.size = 1 from by decide] at hs1
        have hmT := fun A n c w' (h : IsCC w' A n c [T.flat, (lstT its hN).flat]) => rMakeT_any ⟨#[46]⟩ A n c [T, lstT its hN] w' h (by decide) (by simp) (by simp [oks, okT, hok1]) (by simp [sizes]; omega)
        have hmU := fun A n c w' (h : IsCC w' A n c [T.flat, (lstT its E).flat]) => rMakeT_any ⟨#[46]⟩ A n c [T, lstT its E] w' h (by decide) (by simp) (by simp [oks, okT, hok2]) (by simp [sizes]; omega)
        have hpl := prT_len T okT
        have hpA := prA_len its (oks_of hokl)
        have hcons := prA_cons T its
        have hc0 : k = 0 → prA (T :: its) = prT T ++ prA its := fun h => by
          have : its = [] := List.eq_nil_of_length_eq_zero (by omega)
          rw [hcons, this]; rfl
        have hc1 : ¬ k = 0 → prA (T :: its) = prT T ++ ([44] ++ prA its) := fun h => by
          have : ¬ its = [] := fun e => h (by rw [← hl, e]; rfl)
          rw [hcons, if_neg this]; rfl
        have htell := fun w' (hb' : Below w3.heap.size w3 w') => pTerm_any AX nX cX T w' (hiT.below hb') okT (by omega) (Htab.out.below ((HbX.out.trans (hr3.mono hXz)).trans (hb'.mono (by have := (HbX.out.trans (hr3.mono hXz)).size; exact this))))
        obtain ⟨XT, hXT⟩ : ∃ Y, prT T = Y := ⟨_, rfl⟩
        obtain ⟨L, hL⟩ : ∃ Y, prA its = Y := ⟨_, rfl⟩
        rw [hXT] at htell hpl hc0 hc1
        rw [hL] at hpA hc0 hc1 ⊢
        have hXl : XT.length ≤ 1000 := by omega
        have hLl : L.length ≤ 5000 := by omega
        have HmT := Lib.hid hmT
        have HmU := Lib.hid hmU
        have Htell := Lib.hid htell
        have Hc0 := Lib.hid hc0
        have Hc1 := Lib.hid hc1
        have Hits2 := Lib.hid hits2
        have HiT := Lib.hid hiT
        have Hb3 := Lib.hid hb3
        have Hr3 := Lib.hid hr3
        have HT := Lib.hid (hT.out.below hb3)
        have HU := Lib.hid (hU.out.below hb3)
        clear hmT hmU htell hc0 hc1 hits2 hiT hb3 hr3 hT hU hits hokl hszl hok1 hok2 hs1 hs2 hpl hpA hcons hXT hL okT szT Hmade g0
        go_wp2_with fail
        refine (HmT.out _ _ _ _ (cc_two HiT.out HT.out)).mono ?_
        rintro e w4 ⟨A4, n4, c4, rfl, hi4, hb4⟩
        have hb4' : Below w3.heap.size w3 w4 := ((Below.refl w3.heap.size w3).alloc (Nat.le_refl _) _).trans (hb4.mono (by simp))
        have hz4 := hb4'.size
        have Hi4 := Lib.hid hi4
        have Hb4 := Lib.hid hb4'
        clear hi4 hb4 hb4'
        go_wp2_with fail
        refine (HmU.out _ _ _ _ (cc_two (HiT.out.below Hb4.out) (HU.out.below Hb4.out))).mono ?_
        rintro e w5 ⟨A5, n5, c5, rfl, hi5, hb5⟩
        have hb45 : Below w4.heap.size w4 w5 := ((Below.refl w4.heap.size w4).alloc (Nat.le_refl _) _).trans (hb5.mono (by simp))
        have hb5' : Below w3.heap.size w3 w5 := Hb4.out.trans (hb45.mono hz4)
        have hz5 := hb5'.size
        have Hi4 := Lib.hid (Hi4.out.below hb45)
        have Hi5 := Lib.hid hi5
        have Hb5 := Lib.hid hb5'
        clear hi5 hb5 hb5' hb45 Hb4
        by_cases hk0 : k = 0
        · subst hk0
          have t3 : decide ((0 : Int) < ((0 : Nat) : Int)) = false := by decide
          go_wp2_with fail
          refine (Htell.out _ Hb5.out).mono ?_
          rintro e w6 ⟨rfl, hb6⟩
          go_wp2
          go_roundw
          case rel => exact ⟨0 + 1, n4, c4, n5, c5, A4, A5, T :: its, by go_num, rfl, rfl, by rw [Hc0.out (by first | rfl | trivial)]; exact congrArg Value.string (cat XT L), by simp [hl], by omega, by omega, Lib.hid (Hi4.out.below hb6), Lib.hid (Hi5.out.below hb6), Hits2, Hr3.out.trans ((Hb5.out.trans (hb6.mono hz5)).mono hr3z)⟩
          case measure => simp [intOf]; omega
        · have t3 : decide ((0 : Int) < (k : Int)) = true := decide_eq_true (by omega)
          go_wp2_with fail
          refine (Htell.out _ Hb5.out).mono ?_
          rintro e w6 ⟨rfl, hb6⟩
          go_wp2
          go_roundw
          case rel => exact ⟨k + 1, n4, c4, n5, c5, A4, A5, T :: its, by go_num, rfl, rfl, by rw [Hc1.out hk0, ← cat, ← cat], by simp [hl], by omega, by omega, Lib.hid (Hi4.out.below hb6), Lib.hid (Hi5.out.below hb6), Hits2, Hr3.out.trans ((Hb5.out.trans (hb6.mono hz5)).mono hr3z)⟩
          case measure => simp [intOf]; omega
      · have hokl : ∀ U ∈ its, U.ok = true := fun U hU => (hits.out U hU).1
        have hszl := sizes_le (fun U hU => (hits.out U hU).2)
        have hpA := prA_len its (oks_of hokl)
        have hok1 := lst_ok hokl (E := hN) (by decide)
        have hok2 := lst_ok hokl HEok.out
        have hs1 := lst_size its hN
        have hs2 := lst_size its E
        rw [show hN.size = 1 from by decide] at hs1
        have hpE := prT_len E HEok.out
        have htT := fun w' (hb' : Below wr.heap.size wr w') => pTerm_any AT nT cT (lstT its hN) w' (hT.out.below hb') hok1 (by omega) (Htab.out.below (hb.trans (hb'.mono hwz)))
        have htU := fun w' (hb' : Below wr.heap.size wr w') => pTerm_any AU nU cU (lstT its E) w' (hU.out.below hb') hok2 (by omega) (Htab.out.below (hb.trans (hb'.mono hwz)))
        have htE := fun w' (hb' : Below wr.heap.size wr w') => pTerm_any _ _ _ E w' ((HE.out.below hbr).below hb') HEok.out (by omega) (Htab.out.below (hb.trans (hb'.mono hwz)))
        have hsame := rSame_any _ _ _ _ _ _ E.flat hN.flat wr (HE.out.below hbr) (Hn.out.below hbr) (by have := HE.out.len; rw [flat_size] at this; omega) (by decide)
        have Hb := Lib.hid hb
        rcases Nat.eq_zero_or_pos m with hm0 | hm0
        · obtain rfl : k = 0 := by omega
          obtain rfl : its = [] := List.eq_nil_of_length_eq_zero hl
          have htT2 := fun w' hb' => (htT w' hb').mono (R' := RetV w' (.string ⟨#[91, 93]⟩)) fun e w2 ⟨h1, h2⟩ => ⟨by rw [h1, show lstT [] hN = hN from rfl, show prT hN = [91, 93] from ht5], h2⟩
          have HtT := Lib.hid htT2
          clear htT htT2 htU htE hsame hokl hszl hpA hok1 hok2 hs1 hs2 hpE hT hU hits hbr hb HbX HE Hn HEok HEd hl
          subst hm0
          clear hin hk1 hk2 hlen
          go_wp2_with fail
          refine (HtT.out _ (Below.refl _ _)).mono ?_
          rintro e w6 ⟨rfl, hb6⟩
          have hb6' := Hb.out.trans (hb6.mono hwz)
          clear hb6
          go_wp2
          go_ret
          exact ⟨rfl, hb6'⟩
        · obtain ⟨x, its2, rfl⟩ : ∃ x its2, its = x :: its2 := by
            cases its with
            | nil => simp at hl; omega
            | cons x its2 => exact ⟨x, its2, rfl⟩
          have hm1 : ((m : Int) == 0) = false := by simp; omega
          have t2 : decide (k < m) = false ∨ (k = 8 ∧ decide ((8 : Int) < (m : Int)) = true) := by
            by_cases h1 : k < m
            · exact .inr ⟨by omega, decide_eq_true (by omega)⟩
            · exact .inl (decide_eq_false (by omega))
          have e1 : prT (lstT (x :: its2) hN) = 91 :: (prA (x :: its2) ++ [93]) := by rw [prT_lst, prL_nil]
          by_cases hEn : E = hN
          · have e2 : prT (lstT (x :: its2) E) = 91 :: (prA (x :: its2) ++ [93]) := by rw [hEn, e1]
            rw [same_tm.2 hEn] at hsame
            have htT2 := fun w' hb' => (htT w' hb').mono (R' := RetV w' (.string (⟨#[91]⟩ ++ ⟨(prA (x :: its2)).toArray⟩ ++ ⟨#[93]⟩))) fun e w2 ⟨h1, h2⟩ => ⟨by rw [h1, e1, lit_text], h2⟩
            have htU2 := fun w' hb' => (htU w' hb').mono (R' := RetV w' (.string (⟨#[91]⟩ ++ ⟨(prA (x :: its2)).toArray⟩ ++ ⟨#[93]⟩))) fun e w2 ⟨h1, h2⟩ => ⟨by rw [h1, e2, lit_text], h2⟩
            obtain ⟨L, hL⟩ : ∃ L, prA (x :: its2) = L := ⟨_, rfl⟩
            rw [hL] at htT2 htU2 hpA ⊢
            have hLl : L.length ≤ 5000 := by omega
            have HtT := Lib.hid htT2
            have HtU := Lib.hid htU2
            have Hsame := Lib.hid hsame
            clear htT htT2 htU htU2 htE hsame hokl hszl hpA hok1 hok2 hs1 hs2 hpE hT hU hits hbr hb HbX HE Hn HEok HEd hl e1 e2 hEn hL hm0 hin
            rcases t2 with t2 | ⟨rfl, t2⟩
            all_goals
              go_wp2_with fail
              refine Hsame.out.mono ?_
              rintro e w5 ⟨rfl, nd, rfl⟩
              have hb5 : Below wr.heap.size wr (wr.drewN nd) := below_drewN (Below.refl _ _) nd
              have Hb5 := Lib.hid hb5
              clear hb5
              go_wp2_with fail
              refine (HtT.out _ Hb5.out).mono ?_
              rintro e w6 ⟨rfl, hb6⟩
              have hb6' := Hb5.out.trans (hb6.mono (Nat.le_refl _))
              have hw6 := hb6'.size
              have Hb6 := Lib.hid hb6'
              clear hb6 hb6'
              go_wp2_with fail
              refine (HtU.out _ Hb6.out).mono ?_
              rintro e w7 ⟨rfl, hb7⟩
              have hb7' := Hb.out.trans ((Hb6.out.trans (hb7.mono hw6)).mono hwz)
              clear hb7
              go_wp2
              go_ret
              exact ⟨rfl, hb7'⟩
          · have e2 : prT (lstT (x :: its2) E) = 91 :: (prA (x :: its2) ++ 124 :: (prT E ++ [93])) := by rw [prT_lst, prL_end HEok.out HEd.out hEn]
            rw [show sameC E.flat hN.flat = false by rw [← Bool.not_eq_true, same_tm]; exact hEn] at hsame
            have htT2 := fun w' hb' => (htT w' hb').mono (R' := RetV w' (.string (⟨#[91]⟩ ++ ⟨(prA (x :: its2)).toArray⟩ ++ ⟨#[93]⟩))) fun e w2 ⟨h1, h2⟩ => ⟨by rw [h1, e1, lit_text], h2⟩
            have htU2 := fun w' hb' => (htU w' hb').mono (R' := RetV w' (.string (⟨#[91]⟩ ++ ⟨(prA (x :: its2)).toArray⟩ ++ ⟨#[124]⟩ ++ ⟨(prT E).toArray⟩ ++ ⟨#[93]⟩))) fun e w2 ⟨h1, h2⟩ => ⟨by rw [h1, e2, bar_text], h2⟩
            obtain ⟨L, hL⟩ : ∃ L, prA (x :: its2) = L := ⟨_, rfl⟩
            obtain ⟨XE, hXE⟩ : ∃ L, prT E = L := ⟨_, rfl⟩
            rw [hL] at htT2 htU2 hpA ⊢
            rw [hXE] at htU2 htE hpE
            have hLl : L.length ≤ 5000 := by omega
            have hXl : XE.length ≤ 1000 := by omega
            have HtT := Lib.hid htT2
            have HtU := Lib.hid htU2
            have HtE := Lib.hid htE
            have Hsame := Lib.hid hsame
            clear htT htT2 htU htU2 htE hsame hokl hszl hpA hok1 hok2 hs1 hs2 hpE hT hU hits hbr hb HbX HE Hn HEok HEd hl e1 e2 hEn hL hXE hm0 hin
            rcases t2 with t2 | ⟨rfl, t2⟩
            all_goals
              go_wp2_with fail
              refine Hsame.out.mono ?_
              rintro e w5 ⟨rfl, nd, rfl⟩
              have hb5 : Below wr.heap.size wr (wr.drewN nd) := below_drewN (Below.refl _ _) nd
              have Hb5 := Lib.hid hb5
              clear hb5
              go_wp2_with fail
              refine (HtT.out _ Hb5.out).mono ?_
              rintro e w6 ⟨rfl, hb6⟩
              have hb6' := Hb5.out.trans (hb6.mono (Nat.le_refl _))
              have hw6 := hb6'.size
              have Hb6 := Lib.hid hb6'
              clear hb6 hb6'
              go_wp2_with fail
              refine (HtU.out _ Hb6.out).mono ?_
              rintro e w7 ⟨rfl, hb7⟩
              have hb7' := Hb6.out.trans (hb7.mono hw6)
              have hw7 := hb7'.size
              have Hb7 := Lib.hid hb7'
              clear hb7 hb7'
              go_wp2_with fail
              refine (HtE.out _ Hb7.out).mono ?_
              rintro e w8 ⟨rfl, hb8⟩
              have hb8' := Hb.out.trans ((Hb7.out.trans (hb8.mono hw7)).mono hwz)
              clear hb8
              go_wp2
              go_ret
              exact ⟨rfl, hb8'⟩
  · have hqb : E0.c0.beq ⟨3, ⟨#[46]⟩, 2⟩ = false := by rw [← Bool.not_eq_true, eqC_dot]; exact hd
    rw [hqb] at hq
    have hEd := hd
    clear hd
    go_upto_region 7 with fail
    have hbX := HbX0.out
    have hn := Hn0.out
    have hE := Hi0.out
    have hEok := Hok0.out
    obtain ⟨E, hEE⟩ : ∃ E, E0 = E := ⟨_, rfl⟩
    have hEsz : E.size ≤ 8 := by rw [← hEE]; exact hsz0
    rw [hEE] at hE hEok hEd
    clear hEE
    clear hq hqb
    have hXz := hbX.size
    have HbX := Lib.hid hbX
    have HE := Lib.hid hE
    have Hn := Lib.hid hn
    have HEok := Lib.hid hEok
    have HEd := Lib.hid hEd
    clear hbX hE hn hEok hEd
    go_wp2
    go_loopw [7, 8, 9, 10] (fun tv uv sv iv wr => ∃ (k nT cT nU cU : Nat) (AT AU : Option Addr) (its : List Tm), iv = .int .i64 k ∧ tv = .slice AT nT cT ∧ uv = .slice AU nU cU ∧ sv = .string ⟨(prA its).toArray⟩ ∧ its.length = k ∧ k ≤ m ∧ k ≤ 8 ∧ Hid (IsC wr AT nT cT (lstT its hN).flat) ∧ Hid (IsC wr AU nU cU (lstT its E).flat) ∧ Hid (∀ U ∈ its, U.ok = true ∧ U.size ≤ 8) ∧ Below X.heap.size X wr) (fun _ _ _ iv _ => m - (intOf iv).toNat)
    case atStart => exact ⟨0, _, _, _, _, _, _, [], rfl, rfl, rfl, rfl, rfl, Nat.zero_le _, Nat.zero_le _, Hn, HE, Lib.hid (by simp), Below.refl _ _⟩
    case round =>
      obtain ⟨k, nT, cT, nU, cU, AT, AU, its, rfl, rfl, rfl, rfl, hl, hk1, hk2, hT, hU, hits, hbr⟩ := hrel
      have hb : Below w.heap.size w wr := HbX.out.trans (hbr.mono hXz)
      have hwz := hb.size
      by_cases hin : k < m ∧ k < 8
      · obtain ⟨h1, h2⟩ := hin
        have t1 : decide ((k : Int) < (m : Int)) = true := decide_eq_true (by omega)
        have t2 : decide ((k : Int) < 8) = true := decide_eq_true (by omega)
        obtain ⟨p, hp⟩ := HB.out.get h1
        obtain ⟨bq, off, A', n', c', rfl, hbq, g0', hi'⟩ := HB.out.at_ hp
        have g0 := (hb.cell (p := ⟨bq, off + k, none⟩) hbq).trans g0'
        have hbq2 : bq < wr.heap.size := Nat.lt_of_lt_of_le hbq hwz
        have hmade := rMade_any A' n' c' p wr (hi'.below hb) 8 (by omega) (by omega)
        have Hmade := Lib.hid hmade
        have Hb := Lib.hid hb
        have Hbr := Lib.hid hbr
        have hrz := hbr.size
        clear g0' hi' hp hmade hb hbr
        go_upto_region 11 with (go_at_call 12; refine Hmade.out.mono ?_; rintro e w3 ⟨T, AX, nX, cX, rfl, okT, szT, hiT, hb3, _⟩)
        have hr3 := Hbr.out.trans (hb3.mono hrz)
        have hr3z := hr3.size
        have hits2 : ∀ U ∈ T :: its, U.ok = true ∧ U.size ≤ 8 := fun U hU => by
          rcases List.mem_cons.1 hU with rfl | h
          · exact ⟨okT, szT⟩
          · exact hits.out U h
        have hokl : ∀ U ∈ its, U.ok = true := fun U hU => (hits.out U hU).1
        have hszl := sizes_le (fun U hU => (hits.out U hU).2)
        have hok1 := lst_ok hokl (E := hN) (by decide)
        have hok2 := lst_ok hokl HEok.out
        have hs1 := lst_size its hN
        have hs2 := lst_size its E
        rw [show hN.size = 1 from by decide] at hs1
        have hmT := fun A n c w' (h : IsCC w' A n c [T.flat, (lstT its hN).flat]) => rMakeT_any ⟨#[46]⟩ A n c [T, lstT its hN] w' h (by decide) (by simp) (by simp [oks, okT, hok1]) (by simp [sizes]; omega)
        have hmU := fun A n c w' (h : IsCC w' A n c [T.flat, (lstT its E).flat]) => rMakeT_any ⟨#[46]⟩ A n c [T, lstT its E] w' h (by decide) (by simp) (by simp [oks, okT, hok2]) (by simp [sizes]; omega)
        have hpl := prT_len T okT
        have hpA := prA_len its (oks_of hokl)
        have hcons := prA_cons T its
        have hc0 : k = 0 → prA (T :: its) = prT T ++ prA its := fun h => by
          have : its = [] := List.eq_nil_of_length_eq_zero (by omega)
          rw [hcons, this]; rfl
        have hc1 : ¬ k = 0 → prA (T :: its) = prT T ++ ([44] ++ prA its) := fun h => by
          have : ¬ its = [] := fun e => h (by rw [← hl, e]; rfl)
          rw [hcons, if_neg this]; rfl
        have htell := fun w' (hb' : Below w3.heap.size w3 w') => pTerm_any AX nX cX T w' (hiT.below hb') okT (by omega) (Htab.out.below ((HbX.out.trans (hr3.mono hXz)).trans (hb'.mono (by have := (HbX.out.trans (hr3.mono hXz)).size; exact this))))
        obtain ⟨XT, hXT⟩ : ∃ Y, prT T = Y := ⟨_, rfl⟩
        obtain ⟨L, hL⟩ : ∃ Y, prA its = Y := ⟨_, rfl⟩
        rw [hXT] at htell hpl hc0 hc1
        rw [hL] at hpA hc0 hc1 ⊢
        have hXl : XT.length ≤ 1000 := by omega
        have hLl : L.length ≤ 5000 := by omega
        have HmT := Lib.hid hmT
        have HmU := Lib.hid hmU
        have Htell := Lib.hid htell
        have Hc0 := Lib.hid hc0
        have Hc1 := Lib.hid hc1
        have Hits2 := Lib.hid hits2
        have HiT := Lib.hid hiT
        have Hb3 := Lib.hid hb3
        have Hr3 := Lib.hid hr3
        have HT := Lib.hid (hT.out.below hb3)
        have HU := Lib.hid (hU.out.below hb3)
        clear hmT hmU htell hc0 hc1 hits2 hiT hb3 hr3 hT hU hits hokl hszl hok1 hok2 hs1 hs2 hpl hpA hcons hXT hL okT szT Hmade g0
        go_wp2_with fail
        refine (HmT.out _ _ _ _ (cc_two HiT.out HT.out)).mono ?_
        rintro e w4 ⟨A4, n4, c4, rfl, hi4, hb4⟩
        have hb4' : Below w3.heap.size w3 w4 := ((Below.refl w3.heap.size w3).alloc (Nat.le_refl _) _).trans (hb4.mono (by simp))
        have hz4 := hb4'.size
        have Hi4 := Lib.hid hi4
        have Hb4 := Lib.hid hb4'
        clear hi4 hb4 hb4'
        go_wp2_with fail
        refine (HmU.out _ _ _ _ (cc_two (HiT.out.below Hb4.out) (HU.out.below Hb4.out))).mono ?_
        rintro e w5 ⟨A5, n5, c5, rfl, hi5, hb5⟩
        have hb45 : Below w4.heap.size w4 w5 := ((Below.refl w4.heap.size w4).alloc (Nat.le_refl _) _).trans (hb5.mono (by simp))
        have hb5' : Below w3.heap.size w3 w5 := Hb4.out.trans (hb45.mono hz4)
        have hz5 := hb5'.size
        have Hi4 := Lib.hid (Hi4.out.below hb45)
        have Hi5 := Lib.hid hi5
        have Hb5 := Lib.hid hb5'
        clear hi5 hb5 hb5' hb45 Hb4
        by_cases hk0 : k = 0
        · subst hk0
          have t3 : decide ((0 : Int) < ((0 : Nat) : Int)) = false := by decide
          go_wp2_with fail
          refine (Htell.out _ Hb5.out).mono ?_
          rintro e w6 ⟨rfl, hb6⟩
          go_wp2
          go_roundw
          case rel => exact ⟨0 + 1, n4, c4, n5, c5, A4, A5, T :: its, by go_num, rfl, rfl, by rw [Hc0.out (by first | rfl | trivial)]; exact congrArg Value.string (cat XT L), by simp [hl], by omega, by omega, Lib.hid (Hi4.out.below hb6), Lib.hid (Hi5.out.below hb6), Hits2, Hr3.out.trans ((Hb5.out.trans (hb6.mono hz5)).mono hr3z)⟩
          case measure => simp [intOf]; omega
        · have t3 : decide ((0 : Int) < (k : Int)) = true := decide_eq_true (by omega)
          go_wp2_with fail
          refine (Htell.out _ Hb5.out).mono ?_
          rintro e w6 ⟨rfl, hb6⟩
          go_wp2
          go_roundw
          case rel => exact ⟨k + 1, n4, c4, n5, c5, A4, A5, T :: its, by go_num, rfl, rfl, by rw [Hc1.out hk0, ← cat, ← cat], by simp [hl], by omega, by omega, Lib.hid (Hi4.out.below hb6), Lib.hid (Hi5.out.below hb6), Hits2, Hr3.out.trans ((Hb5.out.trans (hb6.mono hz5)).mono hr3z)⟩
          case measure => simp [intOf]; omega
      · have hokl : ∀ U ∈ its, U.ok = true := fun U hU => (hits.out U hU).1
        have hszl := sizes_le (fun U hU => (hits.out U hU).2)
        have hpA := prA_len its (oks_of hokl)
        have hok1 := lst_ok hokl (E := hN) (by decide)
        have hok2 := lst_ok hokl HEok.out
        have hs1 := lst_size its hN
        have hs2 := lst_size its E
        rw [show hN.size = 1 from by decide] at hs1
        have hpE := prT_len E HEok.out
        have htT := fun w' (hb' : Below wr.heap.size wr w') => pTerm_any AT nT cT (lstT its hN) w' (hT.out.below hb') hok1 (by omega) (Htab.out.below (hb.trans (hb'.mono hwz)))
        have htU := fun w' (hb' : Below wr.heap.size wr w') => pTerm_any AU nU cU (lstT its E) w' (hU.out.below hb') hok2 (by omega) (Htab.out.below (hb.trans (hb'.mono hwz)))
        have htE := fun w' (hb' : Below wr.heap.size wr w') => pTerm_any _ _ _ E w' ((HE.out.below hbr).below hb') HEok.out (by omega) (Htab.out.below (hb.trans (hb'.mono hwz)))
        have hsame := rSame_any _ _ _ _ _ _ E.flat hN.flat wr (HE.out.below hbr) (Hn.out.below hbr) (by have := HE.out.len; rw [flat_size] at this; omega) (by decide)
        have Hb := Lib.hid hb
        rcases Nat.eq_zero_or_pos m with hm0 | hm0
        · obtain rfl : k = 0 := by omega
          obtain rfl : its = [] := List.eq_nil_of_length_eq_zero hl
          have htT2 := fun w' hb' => (htT w' hb').mono (R' := RetV w' (.string ⟨#[91, 93]⟩)) fun e w2 ⟨h1, h2⟩ => ⟨by rw [h1, show lstT [] hN = hN from rfl, show prT hN = [91, 93] from ht5], h2⟩
          have HtT := Lib.hid htT2
          clear htT htT2 htU htE hsame hokl hszl hpA hok1 hok2 hs1 hs2 hpE hT hU hits hbr hb HbX HE Hn HEok HEd hl
          subst hm0
          clear hin hk1 hk2 hlen
          go_wp2_with fail
          refine (HtT.out _ (Below.refl _ _)).mono ?_
          rintro e w6 ⟨rfl, hb6⟩
          have hb6' := Hb.out.trans (hb6.mono hwz)
          clear hb6
          go_wp2
          go_ret
          exact ⟨rfl, hb6'⟩
        · obtain ⟨x, its2, rfl⟩ : ∃ x its2, its = x :: its2 := by
            cases its with
            | nil => simp at hl; omega
            | cons x its2 => exact ⟨x, its2, rfl⟩
          have hm1 : ((m : Int) == 0) = false := by simp; omega
          have t2 : decide (k < m) = false ∨ (k = 8 ∧ decide ((8 : Int) < (m : Int)) = true) := by
            by_cases h1 : k < m
            · exact .inr ⟨by omega, decide_eq_true (by omega)⟩
            · exact .inl (decide_eq_false (by omega))
          have e1 : prT (lstT (x :: its2) hN) = 91 :: (prA (x :: its2) ++ [93]) := by rw [prT_lst, prL_nil]
          by_cases hEn : E = hN
          · have e2 : prT (lstT (x :: its2) E) = 91 :: (prA (x :: its2) ++ [93]) := by rw [hEn, e1]
            rw [same_tm.2 hEn] at hsame
            have htT2 := fun w' hb' => (htT w' hb').mono (R' := RetV w' (.string (⟨#[91]⟩ ++ ⟨(prA (x :: its2)).toArray⟩ ++ ⟨#[93]⟩))) fun e w2 ⟨h1, h2⟩ => ⟨by rw [h1, e1, lit_text], h2⟩
            have htU2 := fun w' hb' => (htU w' hb').mono (R' := RetV w' (.string (⟨#[91]⟩ ++ ⟨(prA (x :: its2)).toArray⟩ ++ ⟨#[93]⟩))) fun e w2 ⟨h1, h2⟩ => ⟨by rw [h1, e2, lit_text], h2⟩
            obtain ⟨L, hL⟩ : ∃ L, prA (x :: its2) = L := ⟨_, rfl⟩
            rw [hL] at htT2 htU2 hpA ⊢
            have hLl : L.length ≤ 5000 := by omega
            have HtT := Lib.hid htT2
            have HtU := Lib.hid htU2
            have Hsame := Lib.hid hsame
            clear htT htT2 htU htU2 htE hsame hokl hszl hpA hok1 hok2 hs1 hs2 hpE hT hU hits hbr hb HbX HE Hn HEok HEd hl e1 e2 hEn hL hm0 hin
            rcases t2 with t2 | ⟨rfl, t2⟩
            all_goals
              go_wp2_with fail
              refine Hsame.out.mono ?_
              rintro e w5 ⟨rfl, nd, rfl⟩
              have hb5 : Below wr.heap.size wr (wr.drewN nd) := below_drewN (Below.refl _ _) nd
              have Hb5 := Lib.hid hb5
              clear hb5
              go_wp2_with fail
              refine (HtT.out _ Hb5.out).mono ?_
              rintro e w6 ⟨rfl, hb6⟩
              have hb6' := Hb5.out.trans (hb6.mono (Nat.le_refl _))
              have hw6 := hb6'.size
              have Hb6 := Lib.hid hb6'
              clear hb6 hb6'
              go_wp2_with fail
              refine (HtU.out _ Hb6.out).mono ?_
              rintro e w7 ⟨rfl, hb7⟩
              have hb7' := Hb.out.trans ((Hb6.out.trans (hb7.mono hw6)).mono hwz)
              clear hb7
              go_wp2
              go_ret
              exact ⟨rfl, hb7'⟩
          · have e2 : prT (lstT (x :: its2) E) = 91 :: (prA (x :: its2) ++ 124 :: (prT E ++ [93])) := by rw [prT_lst, prL_end HEok.out HEd.out hEn]
            rw [show sameC E.flat hN.flat = false by rw [← Bool.not_eq_true, same_tm]; exact hEn] at hsame
            have htT2 := fun w' hb' => (htT w' hb').mono (R' := RetV w' (.string (⟨#[91]⟩ ++ ⟨(prA (x :: its2)).toArray⟩ ++ ⟨#[93]⟩))) fun e w2 ⟨h1, h2⟩ => ⟨by rw [h1, e1, lit_text], h2⟩
            have htU2 := fun w' hb' => (htU w' hb').mono (R' := RetV w' (.string (⟨#[91]⟩ ++ ⟨(prA (x :: its2)).toArray⟩ ++ ⟨#[124]⟩ ++ ⟨(prT E).toArray⟩ ++ ⟨#[93]⟩))) fun e w2 ⟨h1, h2⟩ => ⟨by rw [h1, e2, bar_text], h2⟩
            obtain ⟨L, hL⟩ : ∃ L, prA (x :: its2) = L := ⟨_, rfl⟩
            obtain ⟨XE, hXE⟩ : ∃ L, prT E = L := ⟨_, rfl⟩
            rw [hL] at htT2 htU2 hpA ⊢
            rw [hXE] at htU2 htE hpE
            have hLl : L.length ≤ 5000 := by omega
            have hXl : XE.length ≤ 1000 := by omega
            have HtT := Lib.hid htT2
            have HtU := Lib.hid htU2
            have HtE := Lib.hid htE
            have Hsame := Lib.hid hsame
            clear htT htT2 htU htU2 htE hsame hokl hszl hpA hok1 hok2 hs1 hs2 hpE hT hU hits hbr hb HbX HE Hn HEok HEd hl e1 e2 hEn hL hXE hm0 hin
            rcases t2 with t2 | ⟨rfl, t2⟩
            all_goals
              go_wp2_with fail
              refine Hsame.out.mono ?_
              rintro e w5 ⟨rfl, nd, rfl⟩
              have hb5 : Below wr.heap.size wr (wr.drewN nd) := below_drewN (Below.refl _ _) nd
              have Hb5 := Lib.hid hb5
              clear hb5
              go_wp2_with fail
              refine (HtT.out _ Hb5.out).mono ?_
              rintro e w6 ⟨rfl, hb6⟩
              have hb6' := Hb5.out.trans (hb6.mono (Nat.le_refl _))
              have hw6 := hb6'.size
              have Hb6 := Lib.hid hb6'
              clear hb6 hb6'
              go_wp2_with fail
              refine (HtU.out _ Hb6.out).mono ?_
              rintro e w7 ⟨rfl, hb7⟩
              have hb7' := Hb6.out.trans (hb7.mono hw6)
              have hw7 := hb7'.size
              have Hb7 := Lib.hid hb7'
              clear hb7 hb7'
              go_wp2_with fail
              refine (HtE.out _ Hb7.out).mono ?_
              rintro e w8 ⟨rfl, hb8⟩
              have hb8' := Hb.out.trans ((Hb7.out.trans (hb8.mono hw7)).mono hwz)
              clear hb8
              go_wp2
              go_ret
              exact ⟨rfl, hb8'⟩
end Go.Proofs.YtekdcmplcjgonaaDoor
