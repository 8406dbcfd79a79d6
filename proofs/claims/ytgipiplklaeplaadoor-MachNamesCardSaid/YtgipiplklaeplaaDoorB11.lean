/- Texts of this proof that belong together: words of memory, plain laws, walks. -/
import Derived.Laws.EntriesVeiled
import Derived.Test.YtgipiplklaeplaaDoorB02
import Derived.Test.YtgipiplklaeplaaDoorB07
set_option linter.unusedVariables false
set_option linter.unusedSimpArgs false
namespace Go.Proofs.YtgipiplklaeplaaDoor
open Go.RowKit
theorem slotA_row (u : Tm) (P q : Nat) (a : List Int) : (slotA u P q a).2 = (slotA u P 0 a).2 := by
 cases u <;> rfl
def slotsZ : List Tm → Nat → List Int → List C × List Int
 | [], _, a => ([], a)
 | u :: us, P, a => ((slotA u P 0 a).1 :: (slotsZ us (P + 1) (slotA u P 0 a).2).1, (slotsZ us (P + 1) (slotA u P 0 a).2).2)
theorem slotsZ_row : ∀ (us : List Tm) (P q : Nat) (a : List Int), (slotsA us P q a).2 = (slotsZ us P a).2
 | [], _, _, _ => rfl
 | u :: us, P, q, a => by
  simp only [slotsA, slotsZ]
  rw [slotsZ_row us, slotA_row]
theorem slotsZ_len : ∀ (us : List Tm) (P : Nat) (a : List Int), (slotsZ us P a).1.length = us.length
 | [], _, _ => rfl
 | u :: us, P, a => by simp [slotsZ, slotsZ_len us]
def setN (ls : List C) (i q : Nat) : List C := ls.set i { sAt ls i with n := q }
theorem setN_len (ls : List C) (i q : Nat) : (setN ls i q).length = ls.length := by simp [setN]
def fixA : List Tm → List C → Nat → List Int → List C × List Int
 | [], ls, _, a => (ls, a)
 | u :: us, ls, i, a => if u.c0.kind = 3 then fixA us (setN (ls ++ (layA u ls.length a).1) i ls.length) (i + 1) (layA u ls.length a).2 else fixA us ls (i + 1) a
theorem setN_mid (pre : List C) (c : C) (tail : List C) (q : Nat) : setN (pre ++ c :: tail) pre.length q = pre ++ { c with n := (q : Int) } :: tail := by
 unfold setN
 have : sAt (pre ++ c :: tail) pre.length = c := sAt_get (by simp)
 rw [this]
 simp [List.set_append]
theorem lay_other {u : Tm} (h : u.c0.kind ≠ 3) (P : Nat) (a : List Int) : layA u P a = ([], a) ∧ u.hs = 0 := by
 cases u <;> simp [Tm.c0] at h <;> exact ⟨rfl, rfl⟩
theorem fix_lay : ∀ (us : List Tm) (pre tail : List C) (P' q : Nat) (a0 a : List Int), q = pre.length + us.length + tail.length →
  fixA us (pre ++ (slotsZ us P' a0).1 ++ tail) pre.length a = (pre ++ (slotsA us P' q a0).1 ++ tail ++ (laysA us q a).1, (laysA us q a).2)
 | [], pre, tail, P', q, a0, a, _ => by simp [fixA, slotsZ, slotsA, laysA]
 | u :: us, pre, tail, P', q, a0, a, hq => by
  have hz := slotsZ_len us (P' + 1) (slotA u P' 0 a0).2
  have hlen : (pre ++ (slotsZ (u :: us) P' a0).1 ++ tail).length = q := by
   simp only [List.length_append, slotsZ_len]; omega
  simp only [List.length_cons] at hq
  by_cases hk : u.c0.kind = 3
  ·unfold fixA
   rw [if_pos hk, hlen]
   have hsl : ∀ z, (slotA u P' z a0).1 = ⟨3, emp, z⟩ ∧ (slotA u P' z a0).2 = a0 := by
    intro z
    cases u with
    | f s vs => exact ⟨rfl, rfl⟩
    | i n => simp [Tm.c0] at hk
    | v n => simp [Tm.c0] at hk
   have e1 : setN (pre ++ (slotsZ (u :: us) P' a0).1 ++ tail ++ (layA u q a).1) pre.length q = (pre ++ [⟨3, emp, (q : Int)⟩]) ++ (slotsZ us (P' + 1) a0).1 ++ (tail ++ (layA u q a).1) := by
    simp only [slotsZ, (hsl 0).1, (hsl 0).2]
    have := setN_mid pre ⟨3, emp, ((0 : Nat) : Int)⟩ ((slotsZ us (P' + 1) a0).1 ++ (tail ++ (layA u q a).1)) q
    simp only [List.append_assoc, List.cons_append] at this ⊢
    rw [this]; simp
   rw [e1]
   have hpl : pre.length + 1 = (pre ++ [(⟨3, emp, (q : Int)⟩ : C)]).length := by simp
   have ih := fix_lay us (pre ++ [(⟨3, emp, (q : Int)⟩ : C)]) (tail ++ (layA u q a).1) (P' + 1) (q + u.hs) a0 (layA u q a).2 (by simp [layA_len]; omega)
   rw [hpl, ih]
   simp only [slotsA, laysA, (hsl q).1, (hsl q).2]
   simp [List.append_assoc]
  ·obtain ⟨l1, l2⟩ := lay_other hk q a
   have hsl : ∀ z, slotA u P' z a0 = slotA u P' 0 a0 := by
    intro z
    cases u with
    | f s vs => simp [Tm.c0] at hk
    | i n => rfl
    | v n => rfl
   unfold fixA
   rw [if_neg hk]
   have e1 : pre ++ (slotsZ (u :: us) P' a0).1 ++ tail = (pre ++ [(slotA u P' 0 a0).1]) ++ (slotsZ us (P' + 1) (slotA u P' 0 a0).2).1 ++ tail := by simp [slotsZ]
   have hpl : pre.length + 1 = (pre ++ [(slotA u P' 0 a0).1]).length := by simp
   rw [e1, hpl, fix_lay us (pre ++ [(slotA u P' 0 a0).1]) tail (P' + 1) q (slotA u P' 0 a0).2 a (by simp; omega)]
   simp only [slotsA, laysA, l1, l2, hsl q, Nat.add_zero]
   simp [List.append_assoc]
theorem whole_lay (l : List C) (s : ByteArray) (us : List Tm) (a : List Int) :
  fixA us (l ++ [⟨4, s, us.length⟩] ++ (slotsZ us (l.length + 1) a).1) (l.length + 1) (slotsZ us (l.length + 1) a).2 = (l ++ (layA (.f s us) l.length a).1, (layA (.f s us) l.length a).2) := by
 have := fix_lay us (l ++ [⟨4, s, us.length⟩]) [] (l.length + 1) (l.length + 1 + us.length) a (slotsZ us (l.length + 1) a).2 (by simp)
 simp only [List.append_nil, List.length_append, List.length_cons, List.length_nil, Nat.zero_add] at this
 rw [this]
 simp only [layA, slotsZ_row]
 simp [List.append_assoc]
theorem slotA_rowlen {u : Tm} (ho : u.ok = true) (P q : Nat) {a : List Int} (h : a.length ≤ 100000) : (slotA u P q a).2.length ≤ 100000 := by
 cases u with
 | i n => exact h
 | f s us => exact h
 | v n =>
  simp [Tm.ok] at ho
  rw [slotA_v]
  split <;> simp only [List.length_set, extA_len_le] <;> omega
theorem slotsA_rowlen : ∀ {us : List Tm}, oks us = true → ∀ (P q : Nat) {a : List Int}, a.length ≤ 100000 → (slotsA us P q a).2.length ≤ 100000
 | [], _, _, _, _, h => h
 | u :: us, ho, P, q, a, h => by
  rw [oks_cons, Bool.and_eq_true] at ho
  exact slotsA_rowlen ho.2 _ _ (slotA_rowlen ho.1 P q h)
mutual
theorem layA_rowlen : ∀ (T : Tm), T.ok = true → ∀ (P : Nat) (a : List Int), a.length ≤ 100000 → (layA T P a).2.length ≤ 100000
 | .i _, _, _, _, h => h
 | .v _, _, _, _, h => h
 | .f s us, ho, P, a, h => by
  simp only [Tm.ok, Bool.and_eq_true] at ho
  exact laysA_rowlen us ho.2.2 _ _ (slotsA_rowlen ho.2.2 _ _ h)
theorem laysA_rowlen : ∀ (us : List Tm), oks us = true → ∀ (P : Nat) (a : List Int), a.length ≤ 100000 → (laysA us P a).2.length ≤ 100000
 | [], _, _, _, h => h
 | u :: us, ho, P, a, h => by
  rw [oks_cons, Bool.and_eq_true] at ho
  exact laysA_rowlen us ho.2 _ _ (layA_rowlen u ho.1 _ _ h)
end
mutual
theorem hs_size : ∀ T : Tm, T.hs ≤ 2 * T.size
 | .i _ => by simp [Tm.hs]
 | .v _ => by simp [Tm.hs]
 | .f s us => by
  have := hss_size us
  have h2 := length_sizes us
  simp only [Tm.hs, Tm.size]; omega
theorem hss_size : ∀ us : List Tm, hss us + us.length ≤ 2 * sizes us
 | [] => by simp [hss, sizes]
 | u :: us => by
  have h1 := hs1 u
  have h2 := hss_size us
  simp only [hss, sizes_cons, List.length_cons]; omega
theorem hs1 : ∀ T : Tm, T.hs + 1 ≤ 2 * T.size
 | .i _ => by simp [Tm.hs, Tm.size]
 | .v _ => by simp [Tm.hs, Tm.size]
 | .f s us => by
  have := hss_size us
  simp only [Tm.hs, Tm.size]; omega
end
end Go.Proofs.YtgipiplklaeplaaDoor
namespace Go.Proofs.YtgipiplklaeplaaDoor
open Go.RowKit
set_option maxHeartbeats 400000 in
theorem rEnd_any (A : Option Addr) (n cap : Nat) (t : List C) (at_ : Nat) (w : World) (h : IsC w A n cap t) (hn : n ≤ 100000) (hat : at_ ≤ 100000) :
  Calls Tryd.prog 88 #[.slice A n cap, .int .i64 at_] w (RetV w (.int .i64 (endR t at_))) := by
 go_enter Tryd.func88, Tryd.ntmps88
 go_wp2
 go_loopw [5, 6] (fun o i wr => ∃ (k m : Nat), k ≤ 100000 ∧ i = .int .i64 k ∧ o = .int .i64 m ∧ 0 < m ∧ m ≤ 1 + 6 * k ∧ at_ ≤ k ∧ Hid (skip (t.drop k) m = skip (t.drop at_) 1) ∧ Below w.heap.size w wr) (fun _ i _ => n - (intOf i).toNat)
 case atStart => exact ⟨at_, 1, hat, rfl, rfl, by omega, by omega, Nat.le_refl _, rfl, Below.refl _ _⟩
 case round =>
  obtain ⟨k, m, hk, rfl, rfl, hm, hm2, hle, hres, hb⟩ := hrel
  by_cases hlt : k < n
  ·obtain ⟨x, hxk⟩ := h.get hlt
   obtain ⟨b, off, rfl, hbb, hwf, h0, h1, h2⟩ := h.at_ hxk
   have hd := drop_get hxk
   have hl := h.len
   have Hd := Lib.hid hd
   have Hl := Lib.hid hl
   clear hxk hd hl
   obtain ⟨hc, hf⟩ := bcell hb
   have hany := cell_any x
   cases ho : x.ok
   ·rw [ho] at hany
    have Hany := Lib.hid hany
    have Ho := Lib.hid ho
    clear hany ho
    go_wp2_with (first | (go_at_call 110; go_must (refine (Hany.out _ hwf).mono ?_); rintro e w1 ⟨rfl, hbn⟩; replace hb := hb.trans (hbn.mono hb.size); clear hbn; obtain ⟨hc, hf⟩ := bcell hb))
    go_ret
    refine ⟨ret_int (Eq.symm (endR_none ?_)), hb⟩
    rw [endN_none, ← hres.out, Hd.out]
    obtain ⟨m, rfl⟩ : ∃ q, m = q + 1 := ⟨m - 1, by omega⟩
    rw [skip_cons, Ho.out]; rfl
   ·rw [ho] at hany
    have Hany := Lib.hid hany
    have Ho := Lib.hid ho
    by_cases hk3 : x.kind = 3
    ·have hn6 := ok_fun ho hk3
     obtain ⟨hn0, hn6⟩ := hn6
     have har := ar_fun ho hk3
     have Har := Lib.hid har
     have Hk3 := Lib.hid hk3
     have hbk : (x.kind == 3) = true := by simp [hk3]
     clear hany ho hk3 har
     by_cases hz : m - 1 + x.n.toNat = 0
     ·have hz' : ((m : Int) - 1 + x.n == 0) = true := by simp; omega
      go_wp2_with (first | (go_at_call 110; go_must (refine (Hany.out _ hwf).mono ?_); rintro e w1 ⟨rfl, hbn⟩; replace hb := hb.trans (hbn.mono hb.size); clear hbn; obtain ⟨hc, hf⟩ := bcell hb))
      go_ret
      refine ⟨ret_int (Eq.symm (endR_some (e := k + 1) ?_)), hb⟩
      rw [endN_some, ← hres.out, Hd.out]
      have hm1 : m = 0 + 1 := by omega
      have har0 : x.ar = 0 := by have := Har.out; omega
      have hlen := Hl.out
      rw [hm1, skip_cons, if_pos Ho.out, har0, skip_zero]
      exact ⟨rfl, by omega, by omega⟩
     ·have hz' : ((m : Int) - 1 + x.n == 0) = false := by simp; omega
      go_wp2_with (first | (go_at_call 110; go_must (refine (Hany.out _ hwf).mono ?_); rintro e w1 ⟨rfl, hbn⟩; replace hb := hb.trans (hbn.mono hb.size); clear hbn; obtain ⟨hc, hf⟩ := bcell hb))
      have hlen := Hl.out
      have har := Har.out
      go_roundw
      case rel =>
       refine ⟨k + 1, m - 1 + x.n.toNat, by omega, by go_num, ?_, by omega, by omega, by omega, Lib.hid ?_, hb⟩
       ·congr 1; omega
       ·have := hres.out
        rw [Hd.out, show m = (m - 1) + 1 by omega, skip_cons, if_pos Ho.out] at this
        rw [← this]
        congr 1; omega
      case measure => simp [intOf]; omega
    ·have har := ar_other hk3
     have Har := Lib.hid har
     have hbk : (x.kind == 3) = false := by simp [hk3]
     clear hany ho hk3 har
     by_cases hz : m = 1
     ·subst hz
      go_wp2_with (first | (go_at_call 110; go_must (refine (Hany.out _ hwf).mono ?_); rintro e w1 ⟨rfl, hbn⟩; replace hb := hb.trans (hbn.mono hb.size); clear hbn; obtain ⟨hc, hf⟩ := bcell hb))
      go_ret
      refine ⟨ret_int (Eq.symm (endR_some (e := k + 1) ?_)), hb⟩
      rw [endN_some, ← hres.out, Hd.out]
      have hlen := Hl.out
      rw [skip_cons, if_pos Ho.out, Har.out, skip_zero]
      exact ⟨rfl, by omega, by omega⟩
     ·have hz' : ((m : Int) - 1 == 0) = false := by simp; omega
      go_wp2_with (first | (go_at_call 110; go_must (refine (Hany.out _ hwf).mono ?_); rintro e w1 ⟨rfl, hbn⟩; replace hb := hb.trans (hbn.mono hb.size); clear hbn; obtain ⟨hc, hf⟩ := bcell hb))
      have hlen := Hl.out
      have har := Har.out
      go_roundw
      case rel =>
       refine ⟨k + 1, m - 1, by omega, by go_num, ?_, by omega, by omega, by omega, Lib.hid ?_, hb⟩
       ·congr 1; omega
       ·have := hres.out
        rw [Hd.out, show m = (m - 1) + 1 by omega, skip_cons, if_pos Ho.out, har, Nat.add_zero] at this
        exact this
      case measure => simp [intOf]; omega
  ·go_wp2
   go_ret
   refine ⟨ret_int (Eq.symm (endR_none ?_)), hb⟩
   rw [endN_none, ← hres.out, drop_end h.len hlt]
   exact skip_nil _ hm
set_option maxHeartbeats 400000 in
theorem rRight_any (A : Option Addr) (n cap : Nat) (t : List C) (w : World) (h : IsC w A n cap t) (hn : n ≤ 100000) : Calls Tryd.prog 75 #[.slice A n cap] w (RetV w (.bool (rightB t))) := by
 have hl := h.len
 have Hl := Lib.hid hl
 have hr := endR t 0
 clear hl
 go_enter Tryd.func75, Tryd.ntmps75
 go_wp2_with (first | (go_at_call 88; go_must (refine (rEnd_any A n cap t 0 _ h hn (by omega)).mono ?_); rintro e w1 ⟨rfl, hb⟩))
 ·go_ret
  exact ⟨ret_bool (right_R t n Hl.out (by omega) (by omega)), hb⟩
 ·go_ret
  exact ⟨ret_bool (right_no t n Hl.out (by omega)).symm, Below.refl _ _⟩
 ·go_ret
  exact ⟨ret_bool (right_no t n Hl.out (by omega)).symm, Below.refl _ _⟩
theorem visit_any (A : Option Addr) (n cap : Nat) (t : List C) (bt bv : Nat) (hn : n ≤ 100000) (hl : t.length = n) (fuel : Nat) : ∀ (at_ : Nat) (w : World), n ≤ at_ + fuel → at_ ≤ 100000 → IsC w A n cap t → bt < w.heap.size → bv < w.heap.size →
  w.cell? ⟨bt, 0, none⟩ = some (.slice A n cap) → w.cell? ⟨bv, 0, none⟩ = some (.func (.func 115) #[] #[.pointer (some ⟨bt, 0, none⟩), .pointer (some ⟨bv, 0, none⟩)]) →
  Calls Tryd.prog 115 #[.int .i64 at_, .pointer (some ⟨bt, 0, none⟩), .pointer (some ⟨bv, 0, none⟩)] w (RetV w (.int .i64 (endT t at_))) := by
 have Hl := Lib.hid hl
 clear hl
 induction fuel with
 | zero =>
  intro at_ w hf hat h hbt hbv ct cv
  have hout : endT t at_ = 0 := endT_none (endN_out (by have := Hl.out; omega))
  have Hout := Lib.hid hout
  clear hout
  go_enter Tryd.func115, Tryd.ntmps115
  go_wp2_with fail
  go_ret
  exact ⟨ret_int Hout.out.symm, Below.refl _ _⟩
 | succ fuel ih =>
  intro at_ w hf hat h hbt hbv ct cv
  have Ih := Lib.hid ih
  clear ih
  by_cases hlt : at_ < n
  ·obtain ⟨x, hxk⟩ := h.get hlt
   obtain ⟨b, off, rfl, hbb, hwf, h0, h1, h2⟩ := h.at_ hxk
   have Hx := Lib.hid hxk
   clear hxk
   have hany := right_any x
   have hb := Below.refl w.heap.size w
   cases ho : x.ok
   ·rw [ho] at hany
    have Hany := Lib.hid hany
    have Ho := Lib.hid ho
    clear hany ho
    go_enter Tryd.func115, Tryd.ntmps115
    go_wp2_with (first | (go_at_call 116; go_must (refine (Hany.out _ hwf).mono ?_); rintro e w1 ⟨rfl, hbn⟩; replace hb := hb.trans (hbn.mono hb.size); clear hbn; obtain ⟨hc, hf⟩ := bcell hb))
    go_ret
    exact ⟨ret_int (endT_none (endN_bad Hx.out Ho.out)).symm, hb⟩
   ·rw [ho] at hany
    have Hany := Lib.hid hany
    have Ho := Lib.hid ho
    by_cases hk3 : x.kind = 3
    ·have hbk : (x.kind != 3) = false := by simp [hk3]
     have hdec : decide (n ≤ at_) = false := by simp; omega
     have hn6 := ok_fun ho hk3
     obtain ⟨hn0, hn6⟩ := hn6
     have har := ar_fun ho hk3
     have Har := Lib.hid har
     clear hany ho hk3 har
     go_enter Tryd.func115, Tryd.ntmps115
     go_wp2_with (first | (go_at_call 116; go_must (refine (Hany.out _ hwf).mono ?_); rintro e w1 ⟨rfl, hbn⟩; replace hb := hb.trans (hbn.mono hb.size); clear hbn; obtain ⟨hc, hf⟩ := bcell hb))
     go_loopw [5, 32] (fun p j wr => ∃ (q i : Nat), p = .int .i64 q ∧ j = .int .i64 i ∧ i ≤ x.ar ∧ at_ + 1 ≤ q ∧ q ≤ n ∧ Hid (skip (t.drop q) (x.ar - i) = skip (t.drop (at_ + 1)) x.ar) ∧ Below w.heap.size w wr) (fun _ j _ => x.ar - (intOf j).toNat)
     case atStart => exact ⟨at_ + 1, 0, by go_num, rfl, Nat.zero_le _, Nat.le_refl _, by omega, rfl, hb⟩
     case round =>
      clear hb hc hf
      obtain ⟨q, i, rfl, rfl, hi, hq1, hq2, hres, hb⟩ := hrel
      obtain ⟨hc, hf⟩ := bcell hb
      by_cases hj : i < x.ar
      ·have hj' : (i : Int) < x.n := by have := Har.out; omega
       have hvis := Ih.out q wr (by omega) (by omega) (h.below hb) (Nat.lt_of_lt_of_le hbt hb.size) (Nat.lt_of_lt_of_le hbv hb.size) ((hc _ _ hbt).trans ct) ((hc _ _ hbv).trans cv)
       cases he : endN t q with
       | none =>
        rw [endT_none he] at hvis
        have Hvis := Lib.hid hvis
        have He := Lib.hid he
        clear hvis he
        go_wp2_with (first | (go_at_call 115; go_must (refine Hvis.out.mono ?_); rintro e w2 ⟨rfl, hb2⟩; replace hb := hb.trans (hb2.mono hb.size)))
        go_ret
        refine ⟨ret_int (endT_none (endN_args Hx.out Ho.out ?_)).symm, hb⟩
        rw [← hres.out, show x.ar - i = 1 + (x.ar - i - 1) by omega, skip_add, endN_none.1 He.out]
        rfl
       | some e =>
        obtain ⟨he1, he2, he3⟩ := endN_some.1 he
        rw [endT_some he] at hvis
        have hez : ((e : Int) == 0) = false := by simp; omega
        have Hvis := Lib.hid hvis
        have He1 := Lib.hid he1
        clear hvis he he1
        go_wp2_with (first | (go_at_call 115; go_must (refine Hvis.out.mono ?_); rintro e w2 ⟨rfl, hb2⟩; replace hb := hb.trans (hb2.mono hb.size)))
        have hlen := Hl.out
        go_roundw
        case rel =>
         refine ⟨e, i + 1, rfl, by go_num, by omega, by omega, by omega, Lib.hid ?_, hb⟩
         rw [← hres.out, show x.ar - i = 1 + (x.ar - (i + 1)) by omega, skip_add, He1.out]
         rfl
        case measure => simp [intOf]; omega
      ·have hj' : ¬ (i : Int) < x.n := by have := Har.out; omega
       go_wp2
       go_ret
       have hlen := Hl.out
       refine ⟨ret_int (Eq.symm (endT_some (endN_good Hx.out Ho.out (by omega) (by omega) ?_))), hb⟩
       rw [← hres.out, show x.ar - i = 0 by omega, skip_zero]
    ·have hbk : (x.kind != 3) = true := by simp [hk3]
     have har := ar_other hk3
     have Har := Lib.hid har
     clear hany ho hk3 har
     go_enter Tryd.func115, Tryd.ntmps115
     go_wp2_with (first | (go_at_call 116; go_must (refine (Hany.out _ hwf).mono ?_); rintro e w1 ⟨rfl, hbn⟩; replace hb := hb.trans (hbn.mono hb.size); clear hbn; obtain ⟨hc, hf⟩ := bcell hb))
     go_ret
     refine ⟨ret_int (Eq.symm (endT_some (e := at_ + 1) (endN_good Hx.out Ho.out (by omega) (by have := Hl.out; omega) ?_))), hb⟩
     rw [Har.out, skip_zero]
  ·have hout : endT t at_ = 0 := endT_none (endN_out (by have := Hl.out; omega))
   have Hout := Lib.hid hout
   clear hout
   go_enter Tryd.func115, Tryd.ntmps115
   go_wp2_with fail
   go_ret
   exact ⟨ret_int Hout.out.symm, Below.refl _ _⟩
set_option maxHeartbeats 400000 in
theorem tend_any (A : Option Addr) (n cap : Nat) (t : List C) (at_ : Nat) (w : World) (h : IsC w A n cap t) (hn : n ≤ 100000) (hat : at_ ≤ 100000) :
  Calls Tryd.prog 112 #[.slice A n cap, .int .i64 at_] w (RetV w (.int .i64 (endT t at_))) := by
 have hmf : ∀ (fn : Fn) (first cap : Array Value) (w : World), (Instr.makeFunc fn first cap).run Tryd.prog w = .ok (.func fn first cap) w := fun _ _ _ _ => rfl
 have hl := h.len
 have Hl := Lib.hid hl
 clear hl
 go_enter Tryd.func112, Tryd.ntmps112
 go_wp2_with fail
 refine (visit_any A n cap t w.heap.size (w.heap.size + 1) hn Hl.out n at_ _ (by omega) hat (h.below (by repeat (first | assumption | exact Below.refl _ _ | refine Below.drew ?_ | refine below_drewN ?_ _ | refine Below.alloc ?_ ?_ _ | refine Below.setCell ?_ ?_ _ | (apply Below.size; assumption) | (simp; done) | (simp; omega) | (have hz := hb.size; simp; omega) | (have hz := hb.size; omega) | omega))) (by simp; omega) (by simp) (by go_simp) (by go_simp)).mono ?_
 rintro e w1 ⟨rfl, hb⟩
 replace hb := Below.trans (a := w) (B := w.heap.size) (by repeat (first | assumption | exact Below.refl _ _ | refine Below.drew ?_ | refine below_drewN ?_ _ | refine Below.alloc ?_ ?_ _ | refine Below.setCell ?_ ?_ _ | (apply Below.size; assumption) | (simp; done) | (simp; omega) | (have hz := hb.size; simp; omega) | (have hz := hb.size; omega) | omega)) (hb.mono (by first | exact Nat.le_refl _ | (simp; done) | (simp; omega)))
 go_wp2_with fail
 go_ret
 exact ⟨rfl, hb⟩
set_option maxHeartbeats 400000 in
theorem tRight_any (A : Option Addr) (n cap : Nat) (t : List C) (w : World) (h : IsC w A n cap t) (hn : n ≤ 100000) : Calls Tryd.prog 94 #[.slice A n cap] w (RetV w (.bool (rightB t))) := by
 have hl := h.len
 have Hl := Lib.hid hl
 clear hl
 by_cases hr : 1 ≤ n ∧ n ≤ 200
 ·have h1 : (1 : Int) ≤ (n : Int) := by omega
  have h2 : (n : Int) ≤ 200 := by omega
  go_enter Tryd.func94, Tryd.ntmps94
  go_wp2_with (first
   | (go_at_call 111; go_must (refine (in_yes _ 1 200 _ h1 h2).mono ?_); rintro e w1 ⟨rfl, rfl⟩)
   | (go_at_call 112; go_must (refine (tend_any A n cap t 0 _ h hn (by omega)).mono ?_); rintro e w1 ⟨rfl, hb⟩))
  go_ret
  exact ⟨ret_bool (right_T t n Hl.out (by omega) (by omega)), hb⟩
 ·have h1 : (n : Int) < 1 ∨ 200 < (n : Int) := by omega
  go_enter Tryd.func94, Tryd.ntmps94
  go_wp2_with (first
   | (go_at_call 111; go_must (refine (in_no _ 1 200 _ h1).mono ?_); rintro e w1 ⟨rfl, rfl⟩))
  go_ret
  exact ⟨ret_bool (right_no t n Hl.out (by omega)).symm, Below.refl _ _⟩
end Go.Proofs.YtgipiplklaeplaaDoor
namespace Go.Proofs.YtgipiplklaeplaaDoor
open Go.RowKit
theorem infoCs : (Tryd.prog.info? 22).map (fun i => (i.zero, i.size, i.bytes)) = some (some (.slice none 0 0), 1, 24) := by kernel_rfl
def Rows_ (w : World) (vs : List Value) (ts : List (List C)) : Prop := vs.length = ts.length ∧ ∀ (i : Nat) (t : List C), ts[i]? = some t → ∃ A' n' cap', vs[i]? = some (Value.slice A' n' cap') ∧ IsC w A' n' cap' t
theorem Rows_.nil (w : World) : Rows_ w [] [] := ⟨rfl, by simp⟩
theorem Rows_.snoc {w : World} {vs : List Value} {ts : List (List C)} (h : Rows_ w vs ts) {A : Option Addr} {n cap : Nat} {t : List C} (ht : IsC w A n cap t) : Rows_ w (vs ++ [.slice A n cap]) (ts ++ [t]) := by
 refine ⟨by simp [h.1], fun i u hu => ?_⟩
 rw [List.getElem?_append] at hu
 split at hu
 ·rename_i hi
  obtain ⟨A', n', c', h1, h2⟩ := h.2 i u hu
  exact ⟨A', n', c', by rw [List.getElem?_append_left (by rw [h.1]; exact hi)]; exact h1, h2⟩
 ·rename_i hi
  have : i = ts.length := by
   have := (List.getElem?_eq_some_iff.1 hu).1
   simp at this
   omega
  subst this
  simp at hu
  subst hu
  exact ⟨A, n, cap, by rw [← h.1]; simp, ht⟩
theorem partsA_some {t : List C} {k at_ e : Nat} (h : endN t at_ = some e) : partsA t (k + 1) at_ = (t.drop at_).take (e - at_) :: partsA t k e := by simp [partsA, h]
theorem right_skip {t : List C} (h : rightB t = true) : skip t 1 = some [] ∧ 1 ≤ t.length ∧ t.length ≤ 200 := by
 simp [rightB] at h
 obtain ⟨⟨h1, h2⟩, h3⟩ := h
 have := (endN_some.1 h3).1
 simp at this
 exact ⟨this, by omega, h2⟩
theorem right_cons {c : C} {cs : List C} (h : rightB (c :: cs) = true) : c.ok = true ∧ skip cs c.ar = some [] := by
 obtain ⟨h, _⟩ := right_skip h
 rw [skip_cons] at h
 split at h
 ·rename_i ho
  exact ⟨ho, by simpa using h⟩
 ·cases h
theorem skip_step {t : List C} {at_ j : Nat} (h : skip (t.drop at_) (j + 1) = some []) : ∃ e, endN t at_ = some e ∧ skip (t.drop e) j = some [] ∧ at_ < e ∧ e ≤ t.length := by
 rw [show j + 1 = 1 + j by omega, skip_add] at h
 cases hs : skip (t.drop at_) 1 with
 | none => rw [hs] at h; cases h
 | some r =>
  rw [hs] at h
  cases he : endN t at_ with
  | none => rw [endN_none] at he; rw [he] at hs; cases hs
  | some e =>
   obtain ⟨h1, h2, h3⟩ := endN_some.1 he
   rw [h1] at hs
   injection hs with hs
   exact ⟨e, rfl, by rw [hs]; exact h, h2, h3⟩
end Go.Proofs.YtgipiplklaeplaaDoor
namespace Go.Proofs.YtgipiplklaeplaaDoor
open Go.RowKit
def RetPW (W w : World) (ts : List (List C)) (e : Ending) (w' : World) : Prop :=
 ∃ A n cap vs, e = .returned (.slice A n cap) ∧ ts.length = n ∧ w'.ownsRow w.heap.size 22 1 (.slice A n cap) n vs ∧ Rows_ W vs ts ∧ Below w.heap.size w w'
set_option maxHeartbeats 400000 in
theorem tParts_w (W : World) (A : Option Addr) (n cap : Nat) (t : List C) (w : World) (hW : IsC W A n cap t) (hbW : Below W.heap.size W w) (hr : rightB t = true) :
  Calls Tryd.prog 101 #[.slice A n cap] w (RetPW W w (partsF t)) := by
 have h := hW.below hbW
 obtain ⟨hsk, hl1, hl2⟩ := right_skip hr
 have hl := h.len
 match t, hr, hl1 with
 | c :: cs, hr, _ =>
  obtain ⟨ho, hcs⟩ := right_cons hr
  have hc0 : (c :: cs)[0]? = some c := rfl
  obtain ⟨b, off, rfl, hbb, hwf, h0, h1, h2⟩ := h.at_ hc0
  simp only [Nat.zero_mul, Nat.add_zero] at h0 h1 h2
  have hn0 : ((n : Int) == 0) = false := by simp at hl ⊢; omega
  have hn1 : 0 < n := by simp at hl; omega
  have hn2 : n ≤ 200 := by omega
  have Hl := Lib.hid hl
  have Hcs := Lib.hid hcs
  clear hl hsk hcs hr hc0 hl2
  by_cases hk3 : c.kind = 3
  ·have hbk : (c.kind != 3) = false := by simp [hk3]
   have har := ar_fun ho hk3
   have hpf : partsF (c :: cs) = partsA (c :: cs) c.ar 1 := by simp [partsF, hk3, C.ar]
   have Har := Lib.hid har
   have Hk3 := Lib.hid hk3
   have Ho := Lib.hid ho
   have Hpf := Lib.hid hpf
   clear har hk3 ho hpf
   go_enter Tryd.func101, Tryd.ntmps101
   go_wp2
   go_loopw [3, 4] (fun o p wr => ∃ (j q m c' : Nat) (Ao : Option Addr) (vs : List Value) (acc : List (List C)), p = .int .i64 q ∧ o = .slice Ao m c' ∧ 1 ≤ q ∧ q ≤ n ∧ m ≤ q ∧ wr.ownsRow w.heap.size 22 1 (.slice Ao m c') m vs ∧ Rows_ W vs acc ∧ Hid (skip ((c :: cs).drop q) j = some []) ∧ Hid (acc ++ partsA (c :: cs) j q = partsF (c :: cs)) ∧ Below w.heap.size w wr) (fun _ p _ => n - (intOf p).toNat)
   case atStart => exact ⟨c.ar, 1, 0, 0, none, [], [], rfl, rfl, by omega, by omega, by omega, World.ownsRow_nil _ _ _ _, Rows_.nil _, Hcs.out, Hpf.out.symm, Below.refl _ _⟩
   case round =>
    obtain ⟨j, q, m, c', Ao, vs, acc, rfl, rfl, hq1, hq2, hm, hown, hrows, hsk, hres, hb⟩ := hrel
    by_cases hlt : q < n
    ·obtain ⟨j, rfl⟩ : ∃ i, j = i + 1 := by
      cases j with
      | zero => exfalso; have := hsk.out; rw [skip_zero] at this; injection this with this; have := congrArg List.length this; simp at this; have := Hl.out; simp at this; omega
      | succ j => exact ⟨j, rfl⟩
     obtain ⟨e, he, hs2, he1, he2⟩ := skip_step hsk.out
     have hend := tend_any (some ⟨b, off, none⟩) n cap (c :: cs) q wr (h.below hb) (by omega) (by omega)
     rw [endT_some he] at hend
     have hez : ((e : Int) == 0) = false := by simp; omega
     have hen : e ≤ n := by rw [← Hl.out]; exact he2
     have hcap := h.sl.hcap
     have hqc : ¬ cap = q := by omega
     have Hend := Lib.hid hend
     have He := Lib.hid he
     have Hs2 := Lib.hid hs2
     clear hend he hs2 he2
     go_wp2_with (first
      | (go_at_call 112; go_must (refine Hend.out.mono ?_); rintro e w1 ⟨rfl, hb1⟩; replace hb := hb.trans (hb1.mono hb.size); replace hown := own_below hown hb1)
      | (at_builtin; go_must (refine wpList_append_sl rfl (.tmp 25) (.tmp 30) 101 rfl w.heap.size 22 Tryd.underlying101 infoCs rfl (by omega) rfl (hown.alloc _) rfl (Sl.lit _ _ [_] 22 1 1 (by simp) rfl (by simp [maxLen])) (one1 rfl) (by omega) (by omega) (by have := hb.size; simp; omega) ?_); intro A' cap' w2 hown1 hb2 _ _))
     have hb3 : Below w.heap.size w w2 := Below.trans (by repeat (first | assumption | exact Below.refl _ _ | refine Below.drew ?_ | refine below_drewN ?_ _ | refine Below.alloc ?_ ?_ _ | refine Below.setCell ?_ ?_ _ | (apply Below.size; assumption) | (simp; done) | (simp; omega) | (have hz := hb.size; simp; omega) | (have hz := hb.size; omega) | omega)) hb2
     go_roundw
     case rel =>
      refine ⟨j, e, m + 1, cap', A', _, acc ++ [((c :: cs).drop q).take (e - q)], rfl, rfl, by omega, hen, by omega, hown1, hrows.snoc (hW.cut' (by omega) hen hqc), Hs2.out, Lib.hid ?_, hb3⟩
      have := hres.out
      rw [partsA_some He.out] at this
      rw [← this]
      simp
     case measure => simp [intOf]; omega
    ·go_wp2
     go_ret
     have hj : j = 0 := by
      have := hsk.out
      rw [drop_end Hl.out hlt] at this
      cases j with
      | zero => rfl
      | succ j => rw [skip_nil _ (by omega)] at this; cases this
     subst hj
     have := hres.out
     simp only [partsA, List.append_nil] at this
     rw [← this]
     exact ⟨_, _, _, _, rfl, by rw [← hrows.1]; simpa using hown.1, hown, hrows, hb⟩
  ·have hbk : (c.kind != 3) = true := by simp [hk3]
   have hpf : partsF (c :: cs) = [] := by simp [partsF, hk3]
   have Hpf := Lib.hid hpf
   clear hpf
   go_enter Tryd.func101, Tryd.ntmps101
   go_wp2
   go_ret
   rw [Hpf.out]
   exact ⟨_, _, _, [], rfl, rfl, World.ownsRow_nil _ _ _ _, Rows_.nil W, Below.refl _ _⟩
end Go.Proofs.YtgipiplklaeplaaDoor
