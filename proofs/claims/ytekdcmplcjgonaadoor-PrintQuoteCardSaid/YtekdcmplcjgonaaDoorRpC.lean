/- The walks of the document's text of a clause, and of a program. -/
import Derived.Deep.CutBlock
import Derived.Test.YtekdcmplcjgonaaDoorRpF
import Derived.Test.YtekdcmplcjgonaaDoorB4
set_option linter.unusedVariables false
set_option linter.unusedSimpArgs false
namespace Go.Proofs.YtekdcmplcjgonaaDoor
open Go.RowKit

theorem cat2 (a b : List UInt8) (c : ByteArray) (h : c.data.toList = b) : (⟨a.toArray⟩ : ByteArray) ++ c = ⟨(a ++ b).toArray⟩ := by
  apply ByteArray.ext
  simp [← h]
set_option maxRecDepth 100000 in
set_option maxHeartbeats 8000000 in
theorem rpClause_any (A : Option Addr) (n cap : Nat) (T : Tm) (B : Option Addr) (m d : Nat) (ls : List (Bool × Tm)) (w : World) (h : IsC w A n cap T.flat) (hok : T.ok = true) (hsz : T.size ≤ 200) (hB : IsG RL 2 w B m d ls) (hls : okL ls) (hm : m ≤ 100) :
    Calls Tryd.prog 15 #[.agg #[.slice A n cap, .slice B m d]] w (RetS w (prCl (T, ls))) := by
  have hal : Below w.heap.size w (w.alloc (.cells #[.slice A n cap, .slice B m d] 33)) := (Below.refl _ _).alloc (Nat.le_refl _) _
  have hx0 : (w.alloc (.cells #[.slice A n cap, .slice B m d] 33)).heap[w.heap.size]? = some (.cells #[.slice A n cap, .slice B m d] 33 (0, 0)) := alloc_at rfl
  have ht := rpTerm_any A n cap T _ (h.below hal) hok hsz
  have hpl := prT_len T hok
  have hlen := hB.len
  have hcap := hB.cap_le
  have Ht := Lib.hid ht
  have Hal := Lib.hid hal
  have Hx0 := Lib.hid hx0
  have HB := Lib.hid hB
  have Hls := Lib.hid hls
  clear ht hal hx0 hB h hok hls
  go_enter Tryd.func15, Tryd.ntmps15
  go_wp2_with fail
  refine Ht.out.mono ?_
  rintro e w1 ⟨rfl, hb1⟩
  have hb1' := Hal.out.trans (hb1.mono (by simp))
  have hx1 := (hb1.block w.heap.size (by simp)).trans Hx0.out
  have hxl := block_lt hx1
  have y0 := cells_of hx1 0
  have y1 := cells_of hx1 1
  simp at y0 y1
  have h1z := hb1'.size
  have Hb1 := Lib.hid hb1'
  obtain ⟨P, hP⟩ : ∃ P, prT T = P := ⟨_, rfl⟩
  have HP := Lib.hid hP
  rw [hP] at hpl ⊢
  have hPl : P.length ≤ 8000 := by omega
  clear hb1 hb1' hx1 hP hpl Ht Hal Hx0
  go_wp2
  go_loopw [3, 4] (fun sv iv wr => ∃ k : Nat, iv = .int .i64 k ∧ sv = .string ⟨(P ++ litsTx 0 (ls.take k)).toArray⟩ ∧ k ≤ m ∧ Below w1.heap.size w1 wr) (fun _ iv _ => m - (intOf iv).toNat)
  case atStart => exact ⟨0, rfl, by simp [litsTx], Nat.zero_le _, Below.refl _ _⟩
  case round =>
    obtain ⟨k, rfl, rfl, hk, hb⟩ := hrel
    have hwz := hb.size
    have z1 := (hb.cell (p := ⟨w.heap.size, 1, none⟩) hxl).trans y1
    by_cases hlt : k < m
    · obtain ⟨⟨neg, T2⟩, hp⟩ := HB.out.get hlt
      obtain ⟨bq, off, A2, n2, c2, rfl, hbq, g0', g1', hi2⟩ := rl_at HB.out hp
      have hbw := Hb1.out.trans (hb.mono h1z)
      have g0 := (hbw.cell (p := ⟨bq, off + k * 2, none⟩) hbq).trans g0'
      have g1 := (hbw.cell (p := ⟨bq, off + k * 2 + 1, none⟩) hbq).trans g1'
      have hbq2 : bq < wr.heap.size := Nat.lt_of_lt_of_le hbq hbw.size
      have hok2 := Hls.out _ (List.mem_of_getElem? hp)
      simp only at g0 g1 hi2 hok2
      have htell := rpTerm_any A2 n2 c2 T2 wr (hi2.below hbw) hok2.1 hok2.2
      have hpl2 := prT_len T2 hok2.1
      have htk := litsTx_take (i := 0) hp
      rw [Nat.zero_add] at htk
      have hll : (litsTx 0 (ls.take k)).length ≤ 8010 * 100 := Nat.le_trans (litsTx_len _ 0 (fun q hq => Hls.out q (List.mem_of_mem_take hq))) (Nat.mul_le_mul (Nat.le_refl _) (by rw [List.length_take]; omega))
      have hLL : (P ++ litsTx 0 (ls.take k)).length ≤ 900000 := by rw [List.length_append]; omega
      have hres : ∀ a b : List UInt8, (if k = 0 then [32, 58, 45, 32] else [44, 32]) = a → (if neg then [92, 43, 32] else []) = b → P ++ litsTx 0 (ls.take (k + 1)) = P ++ litsTx 0 (ls.take k) ++ a ++ b ++ prT T2 := fun a b ha hb => by
        rw [htk, litTx, ha, hb]; simp [List.append_assoc]
      obtain ⟨L, hL⟩ : ∃ L, P ++ litsTx 0 (ls.take k) = L := ⟨_, rfl⟩
      obtain ⟨X, hX⟩ : ∃ X, prT T2 = X := ⟨_, rfl⟩
      rw [hL] at hLL hres ⊢
      rw [hX] at htell hpl2 hres
      have hXl : X.length ≤ 8000 := by omega
      have Hres := Lib.hid hres
      have Htell := Lib.hid htell
      have Hb := Lib.hid hb
      clear g0' g1' hbq hok2 htell hpl2 htk hll hres hL hX hp hi2 hb hbw
      cases neg with
      | true =>
        rcases Nat.eq_zero_or_pos k with h0 | h0
        · have hr := Hres.out [32, 58, 45, 32] [92, 43, 32] (if_pos h0) rfl
          have Hr := Lib.hid hr
          clear hr Hres
          subst h0
          rw [Nat.zero_mul, Nat.add_zero] at g0
          rw [Nat.zero_mul, Nat.add_zero] at g1
          go_wp2_with fail
          refine Htell.out.mono ?_
          rintro e w4 ⟨rfl, hb4⟩
          go_wp2
          go_roundw
          case rel => exact ⟨0 + 1, by go_num, by rw [Hr.out, ← cat, ← cat, ← cat], by omega, Hb.out.trans (hb4.mono hwz)⟩
          case measure => simp [intOf]; omega
        · have hk0 : ((k : Int) == 0) = false := by simp; omega
          have hr := Hres.out [44, 32] [92, 43, 32] (if_neg (by omega)) rfl
          have Hr := Lib.hid hr
          clear hr Hres
          go_wp2_with fail
          refine Htell.out.mono ?_
          rintro e w4 ⟨rfl, hb4⟩
          go_wp2
          go_roundw
          case rel => exact ⟨k + 1, by go_num, by rw [Hr.out, ← cat, ← cat, ← cat], by omega, Hb.out.trans (hb4.mono hwz)⟩
          case measure => simp [intOf]; omega
      | false =>
        rcases Nat.eq_zero_or_pos k with h0 | h0
        · have hr := Hres.out [32, 58, 45, 32] [] (if_pos h0) rfl
          rw [List.append_nil] at hr
          have Hr := Lib.hid hr
          clear hr Hres
          subst h0
          rw [Nat.zero_mul, Nat.add_zero] at g0
          rw [Nat.zero_mul, Nat.add_zero] at g1
          go_wp2_with fail
          refine Htell.out.mono ?_
          rintro e w4 ⟨rfl, hb4⟩
          go_wp2
          go_roundw
          case rel => exact ⟨0 + 1, by go_num, by rw [Hr.out, ← cat, ← cat], by omega, Hb.out.trans (hb4.mono hwz)⟩
          case measure => simp [intOf]; omega
        · have hk0 : ((k : Int) == 0) = false := by simp; omega
          have hr := Hres.out [44, 32] [] (if_neg (by omega)) rfl
          rw [List.append_nil] at hr
          have Hr := Lib.hid hr
          clear hr Hres
          go_wp2_with fail
          refine Htell.out.mono ?_
          rintro e w4 ⟨rfl, hb4⟩
          go_wp2
          go_roundw
          case rel => exact ⟨k + 1, by go_num, by rw [Hr.out, ← cat, ← cat], by omega, Hb.out.trans (hb4.mono hwz)⟩
          case measure => simp [intOf]; omega
    · obtain rfl : k = m := by omega
      have htk : ls.take k = ls := List.take_of_length_le (by omega)
      rw [htk]
      have hll : (litsTx 0 ls).length ≤ 8010 * 100 := Nat.le_trans (litsTx_len _ 0 Hls.out) (Nat.mul_le_mul (Nat.le_refl _) (by omega))
      have hres : prCl (T, ls) = P ++ litsTx 0 ls ++ [46] := by rw [prCl, HP.out]
      have hLL : (P ++ litsTx 0 ls).length ≤ 900000 := by rw [List.length_append]; omega
      obtain ⟨L, hL⟩ : ∃ L, P ++ litsTx 0 ls = L := ⟨_, rfl⟩
      rw [hL] at hres hLL ⊢
      have Hres := Lib.hid hres
      have hfin := Hb1.out.trans (hb.mono h1z)
      have Hfin := Lib.hid hfin
      clear htk hll hres hL hfin hb
      go_wp2
      go_ret
      exact ⟨by rw [Hres.out, ← cat]; rfl, Hfin.out⟩
set_option maxRecDepth 100000 in
set_option maxHeartbeats 4000000 in
theorem rpProgram_any (B : Option Addr) (m d : Nat) (cs : List (Tm × List (Bool × Tm))) (w : World) (hB : IsG RC 2 w B m d cs) (hcs : ∀ c ∈ cs, okCl c) (hm : m ≤ 100) :
    Calls Tryd.prog 20 #[.slice B m d] w (RetS w (prPr cs)) := by
  have hlen := hB.len
  have hcap := hB.cap_le
  have HB := Lib.hid hB
  have Hcs := Lib.hid hcs
  clear hB hcs
  go_enter Tryd.func20, Tryd.ntmps20
  go_wp2
  go_loopw [3, 4] (fun sv iv wr => ∃ k : Nat, iv = .int .i64 k ∧ sv = .string ⟨(prPr (cs.take k)).toArray⟩ ∧ k ≤ m ∧ Below w.heap.size w wr) (fun _ iv _ => m - (intOf iv).toNat)
  case atStart => exact ⟨0, rfl, rfl, Nat.zero_le _, Below.refl _ _⟩
  case round =>
    obtain ⟨k, rfl, rfl, hk, hb⟩ := hrel
    have hwz := hb.size
    by_cases hlt : k < m
    · obtain ⟨x, hx⟩ := HB.out.get hlt
      obtain ⟨bq, off, A, n, cp, B', m', d', rfl, hbq, g0', g1', hi1, hi2⟩ := rc_at HB.out hx
      have g0 := (hb.cell (p := ⟨bq, off + k * 2, none⟩) hbq).trans g0'
      have g1 := (hb.cell (p := ⟨bq, off + k * 2 + 1, none⟩) hbq).trans g1'
      have hbq2 : bq < wr.heap.size := Nat.lt_of_lt_of_le hbq hwz
      have hokx := Hcs.out x (List.mem_of_getElem? hx)
      have hml := hi2.len
      have hcl := rpClause_any A n cp x.1 B' m' d' x.2 wr (hi1.below hb) hokx.1 hokx.2.1 (hi2.below keepsRL hb) hokx.2.2.1 (by have := hokx.2.2.2; omega)
      have hsn := congrArg prPr (take_snoc hx)
      rw [prPr_snoc] at hsn
      have hp1 := prPr_len (cs.take k) (fun q hq => Hcs.out q (List.mem_of_mem_take hq))
      have hp2 : (prPr (cs.take k)).length ≤ 810001 * 100 := Nat.le_trans hp1 (Nat.mul_le_mul (Nat.le_refl _) (by rw [List.length_take]; omega))
      have hp3 := prCl_len hokx
      have hxx : (x.1, x.2) = x := rfl
      obtain ⟨XC, hXC⟩ : ∃ Y, prCl x = Y := ⟨_, rfl⟩
      obtain ⟨L, hL⟩ : ∃ Y, prPr (cs.take k) = Y := ⟨_, rfl⟩
      rw [hxx, hXC] at hcl
      rw [hXC] at hp3 hsn
      rw [hL] at hp2 hsn ⊢
      have Hcl := Lib.hid hcl
      have Hsn := Lib.hid hsn
      have Hb := Lib.hid hb
      clear g0' g1' hbq hokx hml hcl hsn hp1 hxx hXC hL hx hi1 hi2 hb
      go_wp2_with fail
      refine Hcl.out.mono ?_
      rintro e w4 ⟨rfl, hb4⟩
      go_wp2
      go_roundw
      case rel => exact ⟨k + 1, by go_num, by rw [Hsn.out]; exact congrArg Value.string ((cat3 L XC [10]).trans (by rw [List.append_assoc])), by omega, Hb.out.trans (hb4.mono hwz)⟩
      case measure => simp [intOf]; omega
    · obtain rfl : k = m := by omega
      have htk : cs.take k = cs := List.take_of_length_le (by omega)
      rw [htk]
      have Hb := Lib.hid hb
      clear hb htk
      go_wp2
      go_ret
      exact ⟨rfl, Hb.out⟩
end Go.Proofs.YtekdcmplcjgonaaDoor
