/- PrintParts' walk. -/
import Derived.Deep.CutBlock
import Derived.Deep.QuietTactic
import Derived.Test.YtekdcmplcjgonaaDoorRT
import Derived.Test.YtekdcmplcjgonaaDoorHead6
import Derived.Test.YtekdcmplcjgonaaDoorB0
set_option linter.unusedVariables false
set_option linter.unusedSimpArgs false
namespace Go.Proofs.YtekdcmplcjgonaaDoor
open Go.RowKit

/-- a term that can be told, wherever no old row is written anew -/
def TellsT (W : World) (A : Option Addr) (n c : Nat) (T : Tm) : Prop := ∀ w', Below W.heap.size W w' → Calls Tryd.prog 17 #[.slice A n c] w' (RetS w' (prT T))
theorem tellsT {W : World} {A : Option Addr} {n c : Nat} {T : Tm} (h : IsC W A n c T.flat) (hok : T.ok = true) (hsz : T.size ≤ 200) (htab : Tab W) : TellsT W A n c T :=
  fun w' hb => pTerm_any A n c T w' (h.below hb) hok hsz (htab.below hb)
theorem okName_ge {s : ByteArray} (h : okName s = true) : 1 ≤ s.size := by unfold okName at h; simp at h; exact h.2.1
/-- the name of the parts' term: an f, and a letter -/
structure NameF (s : ByteArray) : Prop where
  ok : okName s = true
  two : ∃ c, bytesOf s = [102, c]
theorem nameF {nm : ByteArray} (h : okName nm = true) : NameF ((⟨#[102]⟩ : ByteArray) ++ nm.extract 0 1) := by
  have h1 : 1 ≤ nm.size := by unfold okName at h; simp at h; exact h.2.1
  have h0 := name_ne h
  obtain ⟨c, t, hct⟩ : ∃ c t, bytesOf nm = c :: t := by
    cases hb : bytesOf nm with
    | nil => exact absurd hb h0
    | cons c t => exact ⟨c, t, rfl⟩
  have hx : bytesOf ((⟨#[102]⟩ : ByteArray) ++ nm.extract 0 1) = [102, c] := by
    have : (nm.extract 0 1).data.toList = [c] := by
      have e : (nm.extract 0 1).data.toList = (bytesOf nm).take 1 := by simp [bytesOf]
      rw [e, hct]; rfl
    unfold bytesOf
    rw [show ((⟨#[102]⟩ : ByteArray) ++ nm.extract 0 1).data.toList = [102] ++ (nm.extract 0 1).data.toList by simp, this]
    rfl
  have hodd : ∀ x ∈ bytesOf nm, oddB x = false := by
    unfold okName at h
    rw [Bool.and_eq_true, Bool.not_eq_true', ← Bool.not_eq_true, List.any_eq_true] at h
    intro x hx
    cases ho : oddB x with
    | false => rfl
    | true => exact absurd ⟨x, hx, ho⟩ h.1
  refine ⟨?_, c, hx⟩
  rw [bytes_eq hx]
  refine ok_of_list (fun x hx => ?_) (by simp) (by simp)
  simp at hx
  rcases hx with rfl | rfl
  · decide
  · exact hodd _ (by rw [hct]; simp)
theorem nameF_text {s : ByteArray} {c : UInt8} (h : bytesOf s = [102, c]) (Ts : List Tm) : prT (.f s Ts) = if Ts = [] then quoteN (bytesOf s) else quoteN (bytesOf s) ++ 40 :: (prA Ts ++ [41]) := by
  cases Ts with
  | nil => rw [prT, if_neg (by rw [h]; intro e; simp at e), if_pos rfl]
  | cons a ts => rw [prT_named (by rw [h]; intro e; simp at e) (by rw [h]; intro e; simp [opN] at e) (by rw [h]; intro e; simp at e), if_neg (by simp)]
theorem sum_text (a b : Tm) : prT (.f ⟨#[43]⟩ [a, b]) = 40 :: (prT a ++ 32 :: 43 :: 32 :: (prT b ++ [41])) := by rw [prT, if_pos (by decide)]; rfl
theorem minus_text (a : Tm) : prT (.f ⟨#[45]⟩ [a]) = 45 :: 40 :: (prT a ++ [41]) := by rw [prT, if_pos (by decide)]
theorem cat3 (a b c : List UInt8) : (⟨a.toArray⟩ : ByteArray) ++ ⟨b.toArray⟩ ++ ⟨c.toArray⟩ = ⟨(a ++ b ++ c).toArray⟩ := by rw [cat, cat]
theorem fun_text (q a : List UInt8) : (⟨(q ++ 40 :: (a ++ [41])).toArray⟩ : ByteArray) = ⟨q.toArray⟩ ++ ⟨#[40]⟩ ++ ⟨a.toArray⟩ ++ ⟨#[41]⟩ := by apply ByteArray.ext; simp
theorem plus_text (a b : List UInt8) : (⟨(40 :: (a ++ 32 :: 43 :: 32 :: (b ++ [41]))).toArray⟩ : ByteArray) = ⟨#[40]⟩ ++ ⟨a.toArray⟩ ++ ⟨#[32, 43, 32]⟩ ++ ⟨b.toArray⟩ ++ ⟨#[41]⟩ := by apply ByteArray.ext; simp
theorem minu_text (a : List UInt8) : (⟨(45 :: 40 :: (a ++ [41])).toArray⟩ : ByteArray) = ⟨#[45, 40]⟩ ++ ⟨a.toArray⟩ ++ ⟨#[41]⟩ := by apply ByteArray.ext; simp
theorem oks_of : ∀ {Ts : List Tm}, (∀ U ∈ Ts, U.ok = true) → oks Ts = true
  | [], _ => rfl
  | t :: ts, h => by rw [oks_cons, h t (by simp), oks_of fun U hU => h U (by simp [hU])]; rfl
theorem sizes_le {N : Nat} : ∀ {Ts : List Tm}, (∀ U ∈ Ts, U.size ≤ N) → sizes Ts ≤ N * Ts.length
  | [], _ => by simp [sizes]
  | t :: ts, h => by
    have h1 := h t (by simp)
    have h2 := sizes_le (N := N) (Ts := ts) fun U hU => h U (by simp [hU])
    rw [sizes_cons, List.length_cons, Nat.mul_succ]
    omega
set_option maxRecDepth 100000 in
set_option maxHeartbeats 4000000 in
theorem printParts_walk (B : Option Addr) (m d : Nat) (ls : List (List C)) (s : ByteArray) (x : Int) (w : World) (hB : IsCC w B m d ls) (hs : s.size ≤ maxLen) (_hx0 : 0 ≤ x) (_hx1 : x ≤ 65535) (htab : Tab w) :
    Calls Tryd.prog 9 #[.slice B m d, .agg #[.string s, .int .u16 x]] w (RetV w (.bool true)) := by
  have hhead := fun w' (hb : Below w.heap.size w w') => head06_any w' (htab.below hb)
  have hname := fun w' => rpName_any s hs w'
  have Hhead := Lib.hid hhead
  have Hname := Lib.hid hname
  have HB := Lib.hid hB
  have Htab := Lib.hid htab
  have hlen := hB.len
  have hal : Below w.heap.size w (w.alloc (.cells #[.string s, .int .u16 x] 26)) := (Below.refl _ _).alloc (Nat.le_refl _) _
  have hx0 : (w.alloc (.cells #[.string s, .int .u16 x] 26)).heap[w.heap.size]? = some (.cells #[.string s, .int .u16 x] 26 (0, 0)) := alloc_at rfl
  have Hal := Lib.hid hal
  have Hx0 := Lib.hid hx0
  clear hhead hname hB htab hal hx0
  go_enter Tryd.func9, Tryd.ntmps9
  go_upto_region 2 with (go_at_call 11; refine (Hhead.out _ Hal.out).mono ?_; rintro e w1 ⟨rfl, hb1⟩)
  have hb1' : Below w.heap.size w w1 := Hal.out.trans (hb1.mono (by simp))
  have x1 := (hb1.block w.heap.size (by simp)).trans Hx0.out
  have y0 := cells_of x1 0
  simp at y0
  have x1l := block_lt x1
  clear hb1 x1
  go_upto_region 3 with (go_at_call 16; refine (Hname.out _).mono ?_; rintro e w2 ⟨nm, rfl, hnm, hb2⟩; have hnm1 := okName_ge hnm)
  have hN0 := nameF hnm
  have hb2' : Below w.heap.size w w2 := hb1'.trans (hb2.mono hb1'.size)
  obtain ⟨N, hN⟩ : ∃ N, (⟨#[102]⟩ : ByteArray) ++ nm.extract 0 1 = N := ⟨_, rfl⟩
  rw [hN] at hN0 ⊢
  obtain ⟨hNok, cN, hN2⟩ := hN0
  have hb3' : Below w.heap.size w (w2.alloc (.cells #[] 22)) := hb2'.alloc hb2'.size _
  have HNok := Lib.hid hNok
  have HN2 := Lib.hid hN2
  have Hb3 := Lib.hid hb3'
  have Hb2 := Lib.hid hb2'.size
  clear hN hNok hN2 hb1' hb2 hb2' hb3' y0 x1l hnm hnm1 Hal Hx0
  go_wp2
  go_loopw [7, 8, 9] (fun pv sv iv wr => ∃ (k c : Nat) (A : Option Addr) (Ts : List Tm), iv = .int .i64 k ∧ pv = .slice A k c ∧ sv = .string ⟨(prA Ts).toArray⟩ ∧ k ≤ m ∧ k ≤ 6 ∧ Hid (RowT wr w.heap.size A k c Ts) ∧ Hid (∀ T ∈ Ts, T.ok = true ∧ T.size ≤ 15) ∧ Below w.heap.size w wr) (fun _ _ iv _ => m - (intOf iv).toNat)
  case atStart => exact ⟨0, 0, _, [], rfl, rfl, rfl, Nat.zero_le _, Nat.zero_le _, Lib.hid (RowT.nil _ (fun a ha => by cases ha; exact ⟨by have := Hb2.out; omega, by simp⟩)), Lib.hid (by simp), Hb3.out⟩
  case round =>
    clear Hb3
    obtain ⟨k, c, A, Ts, rfl, rfl, rfl, hk1, hk2, hrow, hTs, hb⟩ := hrel
    by_cases hin : k < m ∧ k < 6
    · obtain ⟨h1, h2⟩ := hin
      have t1 : decide ((k : Int) < (m : Int)) = true := decide_eq_true (by omega)
      have t2 : decide ((k : Int) < 6) = true := decide_eq_true (by omega)
      obtain ⟨p, hp⟩ := HB.out.get h1
      obtain ⟨bq, off, A', n', c', rfl, hbq, g0', hi'⟩ := HB.out.at_ hp
      have g0 := (hb.cell (p := ⟨bq, off + k, none⟩) hbq).trans g0'
      have hbq2 : bq < wr.heap.size := Nat.lt_of_lt_of_le hbq hb.size
      have hmade := rMade_any A' n' c' p wr (hi'.below hb) 15 (by omega) (by omega)
      have Hmade := Lib.hid hmade
      have hwz := hb.size
      have hbq0 : 0 < n' → ∀ a, A' = some a → a.block < w.heap.size := fun hn a ha => by
        obtain ⟨b, off, e, hlt, _⟩ := hi'.sl.cells hn
        rw [e] at ha; cases ha; exact hlt
      have Hbq0 := Lib.hid hbq0
      clear g0' hi' hp hmade hbq0
      go_upto_region 7 with (go_at_call 12; refine Hmade.out.mono ?_; rintro e w3 ⟨T, AT, nT, cT, rfl, okT, szT, hiT, hb3, hat⟩)
      have hun := hrow.out.un hat Hbq0.out
      have hbw3 : Below w.heap.size w w3 := hb.trans (hb3.mono hwz)
      have hw3z := hbw3.size
      have hal3 : Below w3.heap.size w3 (w3.alloc (.cells #[.slice AT nT cT] 22)) := (Below.refl _ _).alloc (Nat.le_refl _) _
      obtain ⟨hl, hgo, vs, hown, hrows⟩ := (hrow.out.below hb3).below hal3
      have hiT3 := hiT.below hal3
      have Hown := Lib.hid hown
      have Hrows := Lib.hid hrows
      have HiT3 := Lib.hid hiT3
      have Hun := Lib.hid hun
      have Hbw3 := Lib.hid hbw3
      have hgz : 0 ≤ k := Nat.zero_le _
      clear hown hrows hiT hiT3 hgo hun hat hrow hb hb3 hal3 g0 Hmade hbw3
      go_upto_region 8 with (at_builtin; go_must (refine wpList_append_own1 rfl (.tmp 35) (.tmp 37) 62 rfl w.heap.size 22 Tryd.underlying62 infoCs rfl (by omega) rfl Hown.out rfl (Sl.lit _ _ [.slice AT nT cT] 22 1 1 (by first | rfl | simp) rfl (by simp [maxLen])) (one1 rfl) (by omega) (by omega) (by omega) (by simp; omega) ?_); intro A2 cap2 w4 hown4 hb4 hap4)
      have hrow4 := RowT.snoc hl hown4 hap4 Hrows.out HiT3.out Hun.out
      have hiT4 := HiT3.out.apart hap4 Hun.out
      have hbw4 : Below w.heap.size w w4 := (Hbw3.out.alloc hw3z _).trans hb4
      have htell := pTerm_any AT nT cT T w4 hiT4 okT (by omega) (Htab.out.below hbw4)
      have hTs2 : ∀ U ∈ Ts ++ [T], U.ok = true ∧ U.size ≤ 15 := fun U hU => by
        rcases List.mem_append.1 hU with h | h
        · exact hTs.out U h
        · rw [List.mem_singleton.1 h]; exact ⟨okT, szT⟩
      have hsnoc0 : k = 0 → prA (Ts ++ [T]) = prA Ts ++ prT T := fun h => by
        have : Ts = [] := List.eq_nil_of_length_eq_zero (by omega)
        rw [prA_snoc, if_pos this, this]; rfl
      have hsnoc1 : ¬ k = 0 → prA (Ts ++ [T]) = prA Ts ++ [44] ++ prT T := fun h => by
        have : ¬ Ts = [] := fun e => h (by rw [← hl, e]; rfl)
        rw [prA_snoc, if_neg this]; simp
      have hplT := prT_len T okT
      have hplA := prA_len Ts (oks_of fun U hU => (hTs.out U hU).1)
      have hszA := sizes_le (fun U hU => (hTs.out U hU).2)
      have HTs2 := Lib.hid hTs2
      have Hrow4 := Lib.hid hrow4
      have Hbw4 := Lib.hid hbw4
      obtain ⟨X, hX⟩ : ∃ X, prT T = X := ⟨_, rfl⟩
      obtain ⟨L, hL⟩ : ∃ L, prA Ts = L := ⟨_, rfl⟩
      rw [hX] at htell hplT hsnoc0 hsnoc1
      rw [hL] at hplA hsnoc0 hsnoc1 ⊢
      have Htell := Lib.hid htell
      have Hsnoc0 := Lib.hid hsnoc0
      have Hsnoc1 := Lib.hid hsnoc1
      have hX1 : X.length ≤ 600 := by omega
      have hL1 : L.length ≤ 4000 := by omega
      have hw4z := hbw4.size
      clear hown4 hb4 hap4 hrow4 hiT4 hbw4 htell hTs2 hsnoc0 hsnoc1 hplT hplA hszA hX hL Hown Hrows HiT3 Hun Hbw3 hTs okT szT hl hw3z
      by_cases hk0 : k = 0
      · subst hk0
        have t3 : decide ((0 : Int) < ((0 : Nat) : Int)) = false := by decide
        go_wp2_with (go_at_call 17; refine Htell.out.mono ?_; rintro e w5 ⟨rfl, hb5⟩)
        go_roundw
        case rel => exact ⟨0 + 1, cap2, A2, Ts ++ [T], by go_num, rfl, by rw [Hsnoc0.out (by first | rfl | trivial)]; exact congrArg Value.string (cat L X), by omega, by omega, Lib.hid (Hrow4.out.below hb5), HTs2, Hbw4.out.trans (hb5.mono hw4z)⟩
        case measure => simp [intOf]; omega
      · have t3 : decide ((0 : Int) < (k : Int)) = true := decide_eq_true (by omega)
        go_wp2_with (go_at_call 17; refine Htell.out.mono ?_; rintro e w5 ⟨rfl, hb5⟩)
        go_roundw
        case rel => exact ⟨k + 1, cap2, A2, Ts ++ [T], by go_num, rfl, by rw [Hsnoc1.out hk0]; exact congrArg Value.string (cat3 L [44] X), by omega, by omega, Lib.hid (Hrow4.out.below hb5), HTs2, Hbw4.out.trans (hb5.mono hw4z)⟩
        case measure => simp [intOf]; omega
    · have t1 : (decide ((k : Int) < (m : Int)) && decide ((k : Int) < 6)) = false := by
        rw [Bool.and_eq_false_iff]
        by_cases h1 : k < m
        · right; exact decide_eq_false (by omega)
        · left; exact decide_eq_false (by omega)
      have t2 : decide ((k : Int) < (m : Int)) = false ∨ (decide ((k : Int) < (m : Int)) = true ∧ decide ((k : Int) < 6) = false) := by
        by_cases h1 : k < m
        · exact .inr ⟨decide_eq_true (by omega), decide_eq_false (by omega)⟩
        · exact .inl (decide_eq_false (by omega))
      clear t1
      have hN12 := okName_le HNok.out
      have hl := hrow.out.len
      have hoks : oks Ts = true := oks_of fun U hU => (hTs.out U hU).1
      have hszs : sizes Ts ≤ 90 := Nat.le_trans (sizes_le (fun U hU => (hTs.out U hU).2)) (by omega)
      have hmk := rMakeT_any N A k c Ts wr hrow.out.cc HNok.out (by omega) hoks (by omega)
      have htx := nameF_text HN2.out Ts
      obtain ⟨QN, hQN⟩ : ∃ QN, quoteN (bytesOf N) = QN := ⟨_, rfl⟩
      have hqu := fun w' => pQuote_any N (by omega) w'
      rw [show N.data.toList = bytesOf N from rfl, hQN] at hqu
      rw [hQN] at htx
      have hql : QN.length ≤ 20 := by
        rw [← hQN]
        have h1 : (bytesOf N).length ≤ 12 := by unfold bytesOf; simp; omega
        unfold quoteN
        split <;> simp <;> omega
      have hTok : (Tm.f N Ts).ok = true := by simp [Tm.ok, HNok.out, hoks]; omega
      have htl := fun A n c w' (h : IsC w' A n c (Tm.f N Ts).flat) (hb' : Below w.heap.size w w') => pTerm_any A n c (Tm.f N Ts) w' h hTok (by rw [Tm.size]; omega) (Htab.out.below hb')
      rw [htx] at htl
      have hplA := prA_len Ts hoks
      have Hmk := Lib.hid hmk
      have Hqu := Lib.hid hqu
      have Hb := Lib.hid hb
      have hwz := hb.size
      rcases Nat.eq_zero_or_pos k with h0 | h0
      · have hTs0 : Ts = [] := List.eq_nil_of_length_eq_zero (by omega)
        rw [if_pos hTs0] at htl
        subst hTs0
        have hmk0 := rMakeT_any N none 0 0 [] wr ⟨rfl, [], ⟨rfl, Nat.le_refl _, by simp [maxLen], fun h => absurd h (by omega)⟩, by simp⟩ HNok.out (by simp) rfl (by simp [sizes])
        have Hmk0 := Lib.hid hmk0
        have Htl := Lib.hid htl
        clear hmk hmk0 htl htx hqu hQN hTok hoks hszs hplA hrow hTs hb Hmk hl hN12
        subst h0
        obtain rfl : m = 0 := by omega
        clear t2 hin hlen hk1 hk2
        all_goals
          go_wp2_with fail
          refine Hmk0.out.mono ?_
          rintro e w5 ⟨A5, n5, c5, rfl, hi5, hb5⟩
          have hb5' := Hb.out.trans (hb5.mono hwz)
          have hw5 := hb5'.size
          go_wp2_with fail
          refine (Htl.out A5 n5 c5 w5 hi5 hb5').mono ?_
          rintro e w6 ⟨rfl, hb6⟩
          have hb6' := hb5'.trans (hb6.mono hw5)
          have hw6 := hb6'.size
          go_wp2_with fail
          refine (Hqu.out _).mono ?_
          rintro e w7 ⟨rfl, hb7⟩
          have hb7' := hb6'.trans (hb7.mono hw6)
          clear hb5 hb5' hb6 hb6' hb7 hi5
          go_wp2
          go_ret
          exact ⟨rfl, hb7'⟩
      · have hTs0 : ¬ Ts = [] := fun e => by rw [e] at hl; simp at hl; omega
        rw [if_neg hTs0] at htl
        obtain ⟨j, rfl⟩ : ∃ j, k = j + 1 := ⟨k - 1, by omega⟩
        obtain ⟨T0, hT0⟩ : ∃ T, Ts[0]? = some T := ⟨_, List.getElem?_eq_getElem (by omega)⟩
        obtain ⟨T1, hT1⟩ : ∃ T, Ts[j]? = some T := ⟨_, List.getElem?_eq_getElem (by omega)⟩
        obtain ⟨bp, op_, A0, n0, c0, rfl, hbp, g0, i0⟩ := hrow.out.at_ hT0
        obtain ⟨_, _, A1, n1, c1, eA, _, g1, i1⟩ := hrow.out.at_ hT1
        cases eA
        have hok0 := hTs.out T0 (List.mem_of_getElem? hT0)
        have hok1 := hTs.out T1 (List.mem_of_getElem? hT1)
        have hpl0 := prT_len T0 hok0.1
        have hpl1 := prT_len T1 hok1.1
        have hFE := fun_text QN (prA Ts)
        have hSE := plus_text (prT T0) (prT T1)
        have hME := minu_text (prT T0)
        have htl2 := fun A n c w' h hb' => (htl A n c w' h hb').mono (R' := RetV w' (.string (⟨QN.toArray⟩ ++ ⟨#[40]⟩ ++ ⟨(prA Ts).toArray⟩ ++ ⟨#[41]⟩))) fun e w2 ⟨h1, h2⟩ => ⟨by rw [h1, hFE], h2⟩
        have hok2 : oks [T0, T1] = true := by simp [oks, hok0.1, hok1.1]
        have htS := fun A n c w' (h : IsC w' A n c (Tm.f ⟨#[43]⟩ [T0, T1]).flat) (hb' : Below w.heap.size w w') => (pTerm_any A n c (Tm.f ⟨#[43]⟩ [T0, T1]) w' h (by simp [Tm.ok, hok2]; decide) (by simp [Tm.size, sizes]; omega) (Htab.out.below hb')).mono (R' := RetV w' (.string (⟨#[40]⟩ ++ ⟨(prT T0).toArray⟩ ++ ⟨#[32, 43, 32]⟩ ++ ⟨(prT T1).toArray⟩ ++ ⟨#[41]⟩))) fun e w2 ⟨h1, h2⟩ => ⟨by rw [h1, sum_text, hSE], h2⟩
        have htM := fun A n c w' (h : IsC w' A n c (Tm.f ⟨#[45]⟩ [T0]).flat) (hb' : Below w.heap.size w w') => (pTerm_any A n c (Tm.f ⟨#[45]⟩ [T0]) w' h (by simp [Tm.ok, oks, hok0.1]; decide) (by simp [Tm.size, sizes]; omega) (Htab.out.below hb')).mono (R' := RetV w' (.string (⟨#[45, 40]⟩ ++ ⟨(prT T0).toArray⟩ ++ ⟨#[41]⟩))) fun e w2 ⟨h1, h2⟩ => ⟨by rw [h1, minus_text, hME], h2⟩
        have hmS := fun A n c w' (h : IsCC w' A n c [T0.flat, T1.flat]) => rMakeT_any ⟨#[43]⟩ A n c [T0, T1] w' h (by decide) (by simp) hok2 (by simp [sizes]; omega)
        have hmM := fun A n c w' (h : IsCC w' A n c [T0.flat]) => rMakeT_any ⟨#[45]⟩ A n c [T0] w' h (by decide) (by simp) (by simp [oks, hok0.1]) (by simp [sizes]; omega)
        have ht0 := tellsT i0 hok0.1 (by omega) (Htab.out.below hb)
        have ht1 := tellsT i1 hok1.1 (by omega) (Htab.out.below hb)
        obtain ⟨L, hL⟩ : ∃ L, prA Ts = L := ⟨_, rfl⟩
        obtain ⟨X0, hX0⟩ : ∃ X, prT T0 = X := ⟨_, rfl⟩
        obtain ⟨X1, hX1⟩ : ∃ X, prT T1 = X := ⟨_, rfl⟩
        unfold TellsT at ht0 ht1
        rw [hL] at htl2 hplA ⊢
        rw [hX0] at htS htM ht0 hpl0
        rw [hX1] at htS ht1 hpl1
        have hLl : L.length ≤ 5000 := by omega
        have hXl0 : X0.length ≤ 1000 := by omega
        have hXl1 : X1.length ≤ 1000 := by omega
        have Htl2 := Lib.hid htl2
        have HtS := Lib.hid htS
        have HtM := Lib.hid htM
        have HmS := Lib.hid hmS
        have HmM := Lib.hid hmM
        have Ht0 := Lib.hid ht0
        have Ht1 := Lib.hid ht1
        have Hi0 := Lib.hid i0
        have Hi1 := Lib.hid i1
        clear htl htl2 htS htM hmS hmM ht0 ht1 i0 i1 hFE hSE hME hL hX0 hX1 hpl0 hpl1 hplA htx hqu hQN hTok hoks hszs hrow hTs hb hmk hl hN12 hT0 hT1 hok0 hok1 hok2 hTs0 h0 t2
        have t2 : decide ((j : Int) + 1 < (m : Int)) = false ∨ (decide ((j : Int) + 1 < (m : Int)) = true ∧ decide ((j : Int) + 1 < 6) = false) := by
          by_cases h1 : j + 1 < m
          · exact .inr ⟨decide_eq_true (by omega), decide_eq_false (by omega)⟩
          · exact .inl (decide_eq_false (by omega))
        clear hin
        rcases t2 with t2 | ⟨t2, t3⟩
        all_goals
          go_wp2_with fail
          refine Hmk.out.mono ?_
          rintro e w5 ⟨A5, n5, c5, rfl, hi5, hb5⟩
          have hb5' := Hb.out.trans (hb5.mono hwz)
          have hw5 := hb5'.size
          have hw51 := hb5.size
          go_wp2_with fail
          refine (Htl2.out A5 n5 c5 w5 hi5 hb5').mono ?_
          rintro e w6 ⟨rfl, hb6⟩
          have hb6' := hb5.trans (hb6.mono hw51)
          have hw61 := hb6'.size
          go_wp2_with fail
          refine (Hqu.out _).mono ?_
          rintro e w7 ⟨rfl, hb7⟩
          have hb7' := hb6'.trans (hb7.mono hw61)
          have hw71 := hb7'.size
          have q0 := (hb7'.cell (p := ⟨bp, op_ + 0, none⟩) hbp).trans g0
          have q1 := (hb7'.cell (p := ⟨bp, op_ + j, none⟩) hbp).trans g1
          have Hb7 := Lib.hid hb7'
          clear hb5 hb5' hb6 hb6' hb7 hi5 hb7'
          rw [Nat.add_zero] at q0
          have hbp7 : bp < w7.heap.size := by omega
          go_upto_region 15 with fail
          go_quiet (fail)
          refine onW (fun X => Below wr.heap.size wr X) ?_ ?_
          · exact below_drewN Hb7.out _
          rintro X hbX
          have hXz := hbX.size
          clear Hb7 q0 q1 hbp7 hw71 hw61 hw51 hw5
          have HbX := Lib.hid hbX
          have hbwX := Hb.out.trans (hbX.mono hwz)
          have hwXz := hbwX.size
          have HbwX := Lib.hid hbwX
          clear hbX hbwX
          go_wp2_with fail
          refine (HmS.out _ _ _ _ (cc_two (Hi0.out.below HbX.out) (Hi1.out.below HbX.out))).mono ?_
          rintro e w8 ⟨A8, n8, c8, rfl, hi8, hb8⟩
          have hb8' := (HbwX.out.alloc hwXz _).trans (hb8.mono (by simp; omega))
          have hr8 := (HbX.out.alloc hXz _).trans (hb8.mono (by simp; omega))
          have hw8 := hb8'.size
          have hr8z := hr8.size
          go_wp2_with fail
          refine (HtS.out A8 n8 c8 w8 hi8 hb8').mono ?_
          rintro e w9 ⟨rfl, hb9⟩
          have hb9' := hb8'.trans (hb9.mono hw8)
          have hr9 := hr8.trans (hb9.mono hr8z)
          have hr9z := hr9.size
          have hw9 := hb9'.size
          have Hr9 := Lib.hid hr9
          have Hb9 := Lib.hid hb9'
          clear hb8 hb8' hr8 hb9 hb9' hi8 hr9 hw8 hr8z
          go_wp2_with fail
          refine (Ht0.out _ Hr9.out).mono ?_
          rintro e w10 ⟨rfl, hb10⟩
          have hr10 := Hr9.out.trans (hb10.mono hr9z)
          have hr10z := hr10.size
          have Hr10 := Lib.hid hr10
          clear hb10 hr10
          go_wp2_with fail
          refine (Ht1.out _ Hr10.out).mono ?_
          rintro e w11 ⟨rfl, hb11⟩
          have hr11 := Hr10.out.trans (hb11.mono hr10z)
          have hr11z := hr11.size
          have Hr11 := Lib.hid hr11
          clear hb11 hr11
          go_wp2_with fail
          refine (HmM.out _ _ _ _ (cc_one (Hi0.out.below Hr11.out))).mono ?_
          rintro e w12 ⟨A12, n12, c12, rfl, hi12, hb12⟩
          have hr12 := (Hr11.out.alloc hr11z _).trans (hb12.mono (by simp; omega))
          have hr12z := hr12.size
          have hb12' := Hb.out.trans (hr12.mono hwz)
          go_wp2_with fail
          refine (HtM.out A12 n12 c12 w12 hi12 hb12').mono ?_
          rintro e w13 ⟨rfl, hb13⟩
          have hr13 := hr12.trans (hb13.mono hr12z)
          have hr13z := hr13.size
          have Hr13 := Lib.hid hr13
          clear hb12 hr12 hb12' hi12 hb13 hr13
          go_wp2_with fail
          refine (Ht0.out _ Hr13.out).mono ?_
          rintro e w14 ⟨rfl, hb14⟩
          have hr14 := Hr13.out.trans (hb14.mono hr13z)
          have hb14' := Hb.out.trans (hr14.mono hwz)
          clear hb14 hr14
          go_wp2
          go_ret
          exact ⟨rfl, hb14'⟩
end Go.Proofs.YtekdcmplcjgonaaDoor
