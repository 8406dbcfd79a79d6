/- The walk of the document's text of a term. -/
import Derived.Deep.CutBlock
import Derived.Deep.RegionHeld3
import Derived.Test.YtekdcmplcjgonaaDoorRpT
set_option linter.unusedVariables false
set_option linter.unusedSimpArgs false
namespace Go.Proofs.YtekdcmplcjgonaaDoor
open Go.RowKit

theorem op_textD (a b : List UInt8) (s : ByteArray) : (⟨(40 :: (a ++ 32 :: (bytesOf s ++ 32 :: (b ++ [41])))).toArray⟩ : ByteArray) = ⟨#[40]⟩ ++ ⟨a.toArray⟩ ++ ⟨#[32]⟩ ++ s ++ ⟨#[32]⟩ ++ ⟨b.toArray⟩ ++ ⟨#[41]⟩ := by
  apply ByteArray.ext
  simp [bytesOf]
theorem toList_bytes (s : ByteArray) : s.toList = bytesOf s := by unfold bytesOf; rw [ByteArray.toList_eq]
theorem op_not {s : ByteArray} (h : ¬ opN (bytesOf s) = true) : ¬ s.toList = [61] ∧ ¬ s.toList = [60] ∧ ¬ s.toList = [43] ∧ ¬ s.toList = [45] ∧ ¬ s.toList = [42] := by
  rw [toList_bytes]
  refine ⟨?_, ?_, ?_, ?_, ?_⟩ <;> (intro e; apply h; rw [e]; decide)
theorem beqno {s : ByteArray} {l : List UInt8} (h : ¬ s.toList = l) : (s.toList == l) = false := by rw [← Bool.not_eq_true, beq_iff_eq]; exact h
theorem op_is {s : ByteArray} (h : opN (bytesOf s) = true) : s = ⟨#[61]⟩ ∨ s = ⟨#[60]⟩ ∨ s = ⟨#[43]⟩ ∨ s = ⟨#[45]⟩ ∨ s = ⟨#[42]⟩ := by
  unfold opN at h
  simp only [Bool.or_eq_true, beq_iff_eq] at h
  rcases h with (((h | h) | h) | h) | h
  · exact .inl (bytes_eq h)
  · exact .inr (.inl (bytes_eq h))
  · exact .inr (.inr (.inl (bytes_eq h)))
  · exact .inr (.inr (.inr (.inl (bytes_eq h))))
  · exact .inr (.inr (.inr (.inr (bytes_eq h))))
theorem quoteN_lenD (l : List UInt8) : (quoteN l).length ≤ l.length + 2 := by unfold quoteN; split <;> simp
set_option maxRecDepth 100000 in
set_option maxHeartbeats 8000000 in
theorem rpTerm_step {N : Nat} (hT : RpT N) (hN9 : N ≤ 199) : RpT (N + 1) := by
  intro A n cap T w h hok hsz
  obtain ⟨b0, off0, rfl, hb0, hw0, k0, k1, k2⟩ := h.at_ (flat_get0 T)
  rw [Nat.zero_mul, Nat.add_zero] at k0 k1 k2
  have hn0 : 0 < n := by have := h.len; rw [flat_size] at this; have := T.size_pos; omega
  have hal : Below w.heap.size w (w.alloc (.cells #[.int .i64 T.c0.kind, .string T.c0.name, .int .i64 T.c0.n] 66)) := (Below.refl _ _).alloc (Nat.le_refl _) _
  have hx0 : (w.alloc (.cells #[.int .i64 T.c0.kind, .string T.c0.name, .int .i64 T.c0.n] 66)).heap[w.heap.size]? = some (.cells #[.int .i64 T.c0.kind, .string T.c0.name, .int .i64 T.c0.n] 66 (0, 0)) := alloc_at rfl
  have Hal := Lib.hid hal
  have Hx0 := Lib.hid hx0
  have Hh := Lib.hid h
  have Hok := Lib.hid hok
  have HT := Lib.hid hT
  clear hal hx0 h hok hT hw0
  match T, hsz with
  | .v m, _ =>
    have hm := Hok.out
    simp only [Tm.ok, Bool.and_eq_true, decide_eq_true_eq] at hm
    obtain ⟨u, rfl⟩ : ∃ u : Nat, m = u := ⟨m.toNat, by omega⟩
    have hv := fun w => rpVarName_any u (by omega) w
    have hp : prT (.v (u : Int)) = varName u := by rw [prT]; rfl
    have Hv := Lib.hid hv
    have Hp := Lib.hid hp
    clear hv hp hm
    simp only [Tm.c0] at k0 k1 k2 Hal
    go_enter Tryd.func18, Tryd.ntmps18
    go_wp2_with (go_at_call 24; refine (Hv.out _).mono ?_; rintro e w1 ⟨rfl, hb⟩)
    go_ret
    exact ⟨by rw [Hp.out]; rfl, Hal.out.trans (hb.mono (by simp))⟩
  | .i m, _ =>
    have hm := Hok.out
    simp only [Tm.ok, Bool.and_eq_true, decide_eq_true_eq] at hm
    have hv := fun w => rdigits_any m (by omega) (by omega) w
    have hp : prT (.i m) = Lib.itoa m := by rw [prT]
    have Hv := Lib.hid hv
    have Hp := Lib.hid hp
    clear hv hp hm
    simp only [Tm.c0] at k0 k1 k2 Hal
    go_enter Tryd.func18, Tryd.ntmps18
    go_wp2_with (go_at_call 42; refine (Hv.out _).mono ?_; rintro e w1 ⟨rfl, hb⟩)
    go_ret
    exact ⟨by rw [Hp.out]; rfl, Hal.out.trans (hb.mono (by simp))⟩
  | .f s as_, hsz =>
    simp only [Tm.c0] at k0 k1 k2 Hal Hx0
    have hparts := rParts_any _ n cap _ _ (Hh.out.below Hal.out) (right_flat Hok.out (by omega))
    rw [parts_flat Hok.out (by omega)] at hparts
    have Hparts := Lib.hid hparts
    clear hparts
    go_enter Tryd.func18, Tryd.ntmps18
    go_upto_region 7 with (go_at_call 43; refine Hparts.out.mono ?_; rintro e w2 ⟨AP, nP, cP, rfl, hcc, hb2⟩)
    have hnP := hcc.len
    rw [List.length_map] at hnP
    simp only [Tm.args] at hnP hcc
    have hxb := (hb2.block w.heap.size (by simp)).trans Hx0.out
    have y0 := cells_of hxb 0
    have y1 := cells_of hxb 1
    have y2 := cells_of hxb 2
    have yl := block_lt hxb
    simp at y0 y1 y2
    have hb2' := Hal.out.trans (hb2.mono Hal.out.size)
    have hwz := hb2'.size
    have hok2 := Hok.out
    simp only [Tm.ok, Bool.and_eq_true, decide_eq_true_eq] at hok2
    obtain ⟨hnm, hal6, hoks⟩ := hok2
    have hs12 := okName_le hnm
    have hsz2 : 1 + sizes as_ ≤ N + 1 := by have := hsz; rw [Tm.size] at this; exact this
    have hmem : ∀ U ∈ as_, U.ok = true ∧ U.size ≤ N := fun U hU => ⟨ok_mem hoks hU, by have := size_mem hU; omega⟩
    have hq := fun w' => rpQuote_any s (by omega) (okName_ge hnm) w'
    rw [show s.data.toList = bytesOf s from rfl] at hq
    have htx := fun w' (hb' : Below w2.heap.size w2 w') => rtexts_any HT.out AP nP cP as_ w' (hcc.below hb') hmem (by omega) (by omega)
    have hpA := prA_len as_ hoks
    have hql := quoteN_lenD (bytesOf s)
    have hsl : (bytesOf s).length ≤ 12 := by unfold bytesOf; simp; omega
    have Hb2 := Lib.hid hb2'
    have Hq := Lib.hid hq
    have Htx := Lib.hid htx
    have Hcc := Lib.hid hcc
    have Hmem := Lib.hid hmem
    have Hnm := Lib.hid hnm
    have hQl : (quoteN (bytesOf s)).length ≤ 20 := by omega
    have hAl : (prA as_).length ≤ 20000 := by omega
    clear hb2' hq htx hcc hmem hnm hb2 hxb Hx0 hoks hpA hql k0 k1 k2 Hparts hal6
    match as_, hnP with
    | [], _ =>
      rw [show ((([] : List Tm).length : Nat) : Int) = 0 from rfl] at y2
      by_cases hs : s.toList = [91, 93]
      · obtain rfl : s = ⟨#[91, 93]⟩ := bytes_eq (by rw [← toList_bytes]; exact hs)
        have hli := rplist_any HT.out _ n cap (.f ⟨#[91, 93]⟩ []) w2 (Hh.out.below Hb2.out) Hok.out hsz hN9 (.inr ⟨_, rfl, by decide⟩)
        have Hli := Lib.hid hli
        clear hli hs
        go_wp2_with fail
        refine Hli.out.mono ?_
        rintro e w3 ⟨rfl, hb3⟩
        have hb3' := Hb2.out.trans (hb3.mono hwz)
        clear hb3
        go_wp2
        go_ret
        exact ⟨rfl, hb3'⟩
      · have he : prT (.f s []) = quoteN (bytesOf s) := by rw [prT, if_neg (by rw [← toList_bytes]; exact hs)]
        have He := Lib.hid he
        have hs2 := beqno hs
        clear he
        go_wp2_with fail
        refine (Hq.out _).mono ?_
        rintro e w3 ⟨rfl, hb3⟩
        have hb3' := Hb2.out.trans (hb3.mono hwz)
        clear hb3
        go_wp2
        go_ret
        exact ⟨by rw [He.out]; rfl, hb3'⟩
    | [a], hnP =>
      obtain rfl : nP = 1 := by rw [← hnP]; rfl
      rw [show ((([a] : List Tm).length : Nat) : Int) = 1 from rfl] at y2
      by_cases hs : s.toList = [45]
      · obtain rfl : s = ⟨#[45]⟩ := bytes_eq (by rw [← toList_bytes]; exact hs)
        obtain ⟨gp, op, A0, n0, c0, rfl, hgp, p0, i0⟩ := Hcc.out.at_ (k := 0) (t := a.flat) rfl
        rw [Nat.add_zero] at p0
        obtain ⟨oka, sza⟩ := Hmem.out a (by simp)
        have hra := HT.out A0 n0 c0 a w2 i0 oka sza
        have hpl := prT_len a oka
        have he : prT (.f ⟨#[45]⟩ [a]) = 45 :: 40 :: (prT a ++ [41]) := minus_text a
        obtain ⟨X, hX⟩ : ∃ X, prT a = X := ⟨_, rfl⟩
        rw [hX] at hra hpl he
        have hXl : X.length ≤ 20000 := by omega
        have Hra := Lib.hid hra
        have He := Lib.hid he
        clear hra he hpl hX i0 oka sza hs
        go_wp2_with fail
        refine Hra.out.mono ?_
        rintro e w3 ⟨rfl, hb3⟩
        have hb3' := Hb2.out.trans (hb3.mono hwz)
        clear hb3
        go_wp2
        go_ret
        exact ⟨by rw [He.out]; exact congrArg (fun z => Ending.returned (Value.string z)) (minu_text X).symm, hb3'⟩
      · have he := prT_named (s := s) (a := a) (ts := []) (fun h => hs (by rw [toList_bytes]; exact h.1)) (by simp) (by simp)
        have hs2 := beqno hs
        have He := Lib.hid he
        clear he
        go_wp2_with fail
        refine (Hq.out _).mono ?_
        rintro e w3 ⟨rfl, hb3⟩
        have hz3 := hb3.size
        have Hb3 := Lib.hid hb3
        clear hb3
        go_wp2_with fail
        refine (Htx.out _ Hb3.out).mono ?_
        rintro e w4 ⟨rfl, hb4⟩
        have hb4' := Hb2.out.trans ((Hb3.out.trans (hb4.mono hz3)).mono hwz)
        clear hb4
        go_wp2
        go_ret
        exact ⟨by rw [He.out]; exact congrArg (fun z => Ending.returned (Value.string z)) (fun_text _ _).symm, hb4'⟩
    | [a, b], hnP =>
      obtain rfl : nP = 2 := by rw [← hnP]; rfl
      rw [show ((([a, b] : List Tm).length : Nat) : Int) = 2 from rfl] at y2
      by_cases ho : opN (bytesOf s) = true
      · obtain ⟨gp, op, A0, n0, c0, rfl, hgp, p0, i0⟩ := Hcc.out.at_ (k := 0) (t := a.flat) rfl
        obtain ⟨_, _, A1, n1, c1, eP, _, p1, i1⟩ := Hcc.out.at_ (k := 1) (t := b.flat) rfl
        cases eP
        rw [Nat.add_zero] at p0
        obtain ⟨oka, sza⟩ := Hmem.out a (by simp)
        obtain ⟨okb, szb⟩ := Hmem.out b (by simp)
        have hra := fun w' (hb' : Below w2.heap.size w2 w') => HT.out A0 n0 c0 a w' (i0.below hb') oka sza
        have hrb := fun w' (hb' : Below w2.heap.size w2 w') => HT.out A1 n1 c1 b w' (i1.below hb') okb szb
        have hpa := prT_len a oka
        have hpb := prT_len b okb
        have he : prT (.f s [a, b]) = 40 :: (prT a ++ 32 :: (bytesOf s ++ 32 :: (prT b ++ [41]))) := by rw [prT, if_pos ho]
        obtain ⟨X, hX⟩ : ∃ X, prT a = X := ⟨_, rfl⟩
        obtain ⟨Y, hY⟩ : ∃ X, prT b = X := ⟨_, rfl⟩
        rw [hX] at hra hpa he
        rw [hY] at hrb hpb he
        have hXl : X.length ≤ 20000 := by omega
        have hYl : Y.length ≤ 20000 := by omega
        have Hra := Lib.hid hra
        have Hrb := Lib.hid hrb
        have He := Lib.hid he
        clear hra hrb he hpa hpb hX hY i0 i1 oka okb sza szb
        have hss := op_is ho
        have Hss := Lib.hid hss
        clear ho hss
        go_cut [49] from 22 to 49 (fun tv wx => tv = .bool true ∧ wx = w2)
        case first =>
          have hss := Hss.out
          clear Hss He Hq Htx Hcc Hmem Hnm Hok Hh Hra Hrb hQl hAl
          rcases hss with rfl | rfl | rfl | rfl | rfl
          all_goals
            go_wp2_with fail
            go_meet
            exact ⟨rfl, rfl⟩
        case rest =>
          obtain ⟨rfl, hwc⟩ := hcut
          have hwc2 := hwc.symm
          subst hwc2
          clear hwc
          go_upto_region 8 with fail
          clear Hcc Hmem Hq Htx Hnm hQl hAl hsz2 hsz Hh Hok HT hN9 hn0 hb0 y0 y2 hnP
          have hsz12 : s.size ≤ 12 := hs12
          have h4 : ¬ 9223372036854775807 < 1 + X.length := by omega
          have h5 : ¬ 9223372036854775807 < 1 + X.length + 1 := by omega
          have h8 : ¬ 9223372036854775807 < 1 + X.length + 1 + s.size := by omega
          have h9 : ¬ 9223372036854775807 < 1 + X.length + 1 + s.size + 1 := by omega
          have h14 : ¬ 9223372036854775807 < 1 + X.length + 1 + s.size + 1 + Y.length := by omega
          have h15 : ¬ 9223372036854775807 < 1 + X.length + 1 + s.size + 1 + Y.length + 1 := by omega
          clear hsz12 hs12 hsl hXl hYl
          go_region_held3 (fun w' => w'.cell? ⟨gp, op, none⟩ = some (.slice A0 n0 c0) ∧ w'.cell? ⟨gp, op + 1, none⟩ = some (.slice A1 n1 c1) ∧ w'.cell? ⟨w.heap.size, 1, none⟩ = some (.string s))
            (go_keep)
            (first
              | (go_at_call 18; refine (Hrb.out _ hb3').mono ?_; rintro e w4 ⟨rfl, hb4⟩; have hb4' := hb3'.trans (hb4.mono hb3'.size); have v0 := (hb4'.cell (p := ⟨gp, op, none⟩) hgp).trans p0; have v1 := (hb4'.cell (p := ⟨gp, op + 1, none⟩) hgp).trans p1; have v2 := (hb4'.cell (p := ⟨w.heap.size, 1, none⟩) yl).trans y1)
              | (go_at_call 18; refine (Hra.out _ ((Below.refl _ _).drew)).mono ?_; rintro e w3 ⟨rfl, hb3⟩; have hb3' := ((Below.refl w2.heap.size w2).drew).trans hb3; have u0 := (hb3'.cell (p := ⟨gp, op, none⟩) hgp).trans p0; have u1 := (hb3'.cell (p := ⟨gp, op + 1, none⟩) hgp).trans p1; have u2 := (hb3'.cell (p := ⟨w.heap.size, 1, none⟩) yl).trans y1)
              | fail)
          all_goals
            have hb5 := Hb2.out.trans (hb4'.mono hwz)
            clear hb3 hb3' hb4 hb4' u0 u1 u2 v0 v1 v2
            try go_wp2
            go_ret
            exact ⟨by rw [He.out]; exact congrArg (fun z => Ending.returned (Value.string z)) (op_textD X Y _).symm, hb5⟩
      · obtain ⟨o1, o2, o3, o4, o5⟩ := op_not ho
        have q1 := beqno o1
        have q2 := beqno o2
        have q3 := beqno o3
        have q4 := beqno o4
        have q5 := beqno o5
        by_cases hs : s.toList = [46]
        · obtain rfl : s = ⟨#[46]⟩ := bytes_eq (by rw [← toList_bytes]; exact hs)
          have hli := rplist_any HT.out _ n cap (.f ⟨#[46]⟩ [a, b]) w2 (Hh.out.below Hb2.out) Hok.out hsz hN9 (.inl ⟨_, a, b, rfl, by decide⟩)
          have Hli := Lib.hid hli
          clear hli hs o1 o2 o3 o4 o5 q1 q2 q3 q4 q5 ho
          go_wp2_with fail
          refine Hli.out.mono ?_
          rintro e w3 ⟨rfl, hb3⟩
          have hb3' := Hb2.out.trans (hb3.mono hwz)
          clear hb3
          go_wp2
          go_ret
          exact ⟨rfl, hb3'⟩
        · have he := prT_named (s := s) (a := a) (ts := [b]) (by simp) (fun h => ho h.1) (fun h => hs (by rw [toList_bytes]; exact h.1))
          have hs2 := beqno hs
          clear ho
          have He := Lib.hid he
          clear he
          go_wp2_with fail
          refine (Hq.out _).mono ?_
          rintro e w3 ⟨rfl, hb3⟩
          have hz3 := hb3.size
          have Hb3 := Lib.hid hb3
          clear hb3
          go_wp2_with fail
          refine (Htx.out _ Hb3.out).mono ?_
          rintro e w4 ⟨rfl, hb4⟩
          have hb4' := Hb2.out.trans ((Hb3.out.trans (hb4.mono hz3)).mono hwz)
          clear hb4
          go_wp2
          go_ret
          exact ⟨by rw [He.out]; exact congrArg (fun z => Ending.returned (Value.string z)) (fun_text _ _).symm, hb4'⟩
    | a :: b :: c :: l, hnP =>
      have hq0 : ((((a :: b :: c :: l).length : Nat) : Int) == 0) = false := by simp; omega
      have hq1 : ((((a :: b :: c :: l).length : Nat) : Int) == 1) = false := by simp; omega
      have hq2 : ((((a :: b :: c :: l).length : Nat) : Int) == 2) = false := by simp; omega
      have he := prT_named (s := s) (a := a) (ts := b :: c :: l) (by simp) (by simp) (by simp)
      obtain ⟨q, hq⟩ : ∃ q : Int, (((a :: b :: c :: l).length : Nat) : Int) = q := ⟨_, rfl⟩
      rw [hq] at y2 hq0 hq1 hq2
      clear hq
      have He := Lib.hid he
      clear he
      go_wp2_with fail
      refine (Hq.out _).mono ?_
      rintro e w3 ⟨rfl, hb3⟩
      have hz3 := hb3.size
      have Hb3 := Lib.hid hb3
      clear hb3
      go_wp2_with fail
      refine (Htx.out _ Hb3.out).mono ?_
      rintro e w4 ⟨rfl, hb4⟩
      have hb4' := Hb2.out.trans ((Hb3.out.trans (hb4.mono hz3)).mono hwz)
      clear hb4
      go_wp2
      go_ret
      exact ⟨by rw [He.out]; exact congrArg (fun z => Ending.returned (Value.string z)) (fun_text _ _).symm, hb4'⟩
theorem rpT_all : ∀ N : Nat, N ≤ 200 → RpT N
  | 0, _ => fun _ _ _ T _ _ _ h => absurd T.size_pos (by omega)
  | N + 1, h => rpTerm_step (rpT_all N (by omega)) (by omega)
theorem rpTerm_any (A : Option Addr) (n cap : Nat) (T : Tm) (w : World) (h : IsC w A n cap T.flat) (hok : T.ok = true) (hsz : T.size ≤ 200) : Calls Tryd.prog 18 #[.slice A n cap] w (RetS w (prT T)) :=
  rpT_all 200 (Nat.le_refl _) A n cap T w h hok hsz
end Go.Proofs.YtekdcmplcjgonaaDoor
