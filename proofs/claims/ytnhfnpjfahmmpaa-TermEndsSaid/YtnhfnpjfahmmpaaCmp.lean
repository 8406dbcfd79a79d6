/- The walks that hold terms against each other, in order. -/
import Derived.Test.YtnhfnpjfahmmpaaSame
import Derived.StillTailTactics
namespace Go.Proofs.Ytnhfnpjfahmmpaa
open Go.RowKit

set_option maxHeartbeats 400000 in
theorem cmpI_any (a b : Int) (w : World) : Calls Try.prog 53 #[.int .i64 a, .int .i64 b] w fun e w' => e = .returned (.int .i64 (cmpI a b)) ∧ w = w' := by
  by_cases h1 : a < b
  · have h : cmpI a b = -1 := by simp [cmpI, h1]
    have H := Lib.hid h
    clear h
    go_enter Try.func53, Try.ntmps53
    go_wp2
    all_goals go_ret
    all_goals exact ⟨ret_int H.out.symm, rfl⟩
  · by_cases h2 : b < a
    · have h : cmpI a b = 1 := by simp [cmpI, h1, h2]
      have H := Lib.hid h
      clear h
      go_enter Try.func53, Try.ntmps53
      go_wp2
      all_goals go_ret
      all_goals exact ⟨ret_int H.out.symm, rfl⟩
    · have h : cmpI a b = 0 := by simp [cmpI, h1, h2]
      have H := Lib.hid h
      clear h
      go_enter Try.func53, Try.ntmps53
      go_wp2
      all_goals go_ret
      all_goals exact ⟨ret_int H.out.symm, rfl⟩
set_option maxHeartbeats 400000 in
theorem cmpS_any (a b : ByteArray) (w : World) : Calls Try.prog 54 #[.string a, .string b] w fun e w' => e = .returned (.int .i64 (cmpS a b)) ∧ w = w' := by
  go_enter Try.func54, Try.ntmps54
  go_wp2
  · rename_i h
    go_ret
    exact ⟨ret_int (by simp [cmpS, h]), rfl⟩
  · have h1 : Op.bytesLess a.toList b.toList = false := by assumption
    have h2 : (!a.toList == b.toList) = true := by assumption
    go_ret
    exact ⟨ret_int (by simp at h2; unfold cmpS; rw [if_neg (by simp [h1]), if_neg (by simpa using h2)]), rfl⟩
  · have h1 : Op.bytesLess a.toList b.toList = false := by assumption
    have h2 : (!a.toList == b.toList) = false := by assumption
    go_ret
    exact ⟨ret_int (by simp at h2; unfold cmpS; rw [if_neg (by rw [h1]; simp), if_pos (by simpa using h2)]), rfl⟩

def orF : List Int → Int
  | [] => 0
  | x :: l => if x = 0 then orF l else x
set_option maxHeartbeats 400000 in
theorem cmpOr_any (A : Option Addr) (n cap : Nat) (ns : List Int) (w : World) (h : IsI w A n cap ns) (hn : n ≤ 100000) :
    Calls Try.prog 52 #[.slice A n cap] w fun e w' => e = .returned (.int .i64 (orF ns)) ∧ w = w' := by
  go_enter Try.func52, Try.ntmps52
  go_wp2
  go_loop [8] (fun i => ∃ k : Nat, k ≤ n ∧ i = .int .i64 k ∧ Hid (orF (ns.drop k) = orF ns)) (fun i => n - (intOf i).toNat)
  case atStart => exact ⟨0, Nat.zero_le _, rfl, rfl⟩
  case round =>
    obtain ⟨k, hk, rfl, hres⟩ := hrel
    by_cases hlt : k < n
    · obtain ⟨y, hy⟩ := h.get hlt
      obtain ⟨b, off, rfl, hb, hwf, hc⟩ := h.at_ hy
      have hd := drop_get hy
      have Hd := Lib.hid hd
      clear hy hd
      cases ho : (y != 0)
      all_goals
        have Ho := Lib.hid ho
        go_wp2
      · go_round
        case rel => exact ⟨k + 1, by omega, by go_num, by have := hres.out; have ho := Ho.out; rw [Hd.out, orF, if_pos (by simpa using ho)] at this; exact this⟩
        case measure => simp [intOf]; omega
      · go_ret
        exact ⟨ret_int (by have := hres.out; have ho := Ho.out; rw [Hd.out, orF, if_neg (by simpa using ho)] at this; exact this), rfl⟩
    · go_wp2
      go_ret
      exact ⟨ret_int (by have := hres.out; rw [drop_end h.len hlt] at this; exact this), rfl⟩

theorem cmpC_or (x y : C) : orF [cmpI x.kind y.kind, cmpI x.n y.n, cmpS x.name y.name] = cmpC x y := by
  unfold cmpC orF orF orF orF
  by_cases h1 : cmpI x.kind y.kind = 0 <;> by_cases h2 : cmpI x.n y.n = 0 <;> by_cases h3 : cmpS x.name y.name = 0 <;> simp [h1, h2, h3]
theorem cmpI_i64 (a b : Int) : i64 (cmpI a b) := by unfold cmpI i64; split <;> (try split) <;> omega
theorem cmpS_i64 (a b : ByteArray) : i64 (cmpS a b) := by unfold cmpS i64; split <;> (try split) <;> omega
set_option maxHeartbeats 800000 in
theorem compare1_any (x y : C) (w : World) : Calls Try.prog 51 #[x.val, y.val] w (RetV w (.int .i64 (cmpC x y))) := by
  unfold C.val
  have hor := cmpC_or x y
  have Hor := Lib.hid hor
  clear hor
  go_enter Try.func51, Try.ntmps51
  go_wp2
  obtain ⟨W, hW⟩ : ∃ W, W = (w.alloc (Obj.cells #[Value.int IntKind.i64 x.kind, Value.string x.name, Value.int IntKind.i64 x.n] 40)).alloc (Obj.cells #[Value.int IntKind.i64 y.kind, Value.string y.name, Value.int IntKind.i64 y.n] 40) := ⟨_, rfl⟩
  rw [← hW]
  have f0 : W.cell? ⟨w.heap.size, 0, none⟩ = some (.int .i64 x.kind) := by rw [hW]; go_simp
  have f1 : W.cell? ⟨w.heap.size, 1, none⟩ = some (.string x.name) := by rw [hW]; go_simp
  have f2 : W.cell? ⟨w.heap.size, 2, none⟩ = some (.int .i64 x.n) := by rw [hW]; go_simp
  have g0 : W.cell? ⟨w.heap.size + 1, 0, none⟩ = some (.int .i64 y.kind) := by rw [hW]; go_simp
  have g1 : W.cell? ⟨w.heap.size + 1, 1, none⟩ = some (.string y.name) := by rw [hW]; go_simp
  have g2 : W.cell? ⟨w.heap.size + 1, 2, none⟩ = some (.int .i64 y.n) := by rw [hW]; go_simp
  have hb : Below w.heap.size w W := by rw [hW]; exact (by repeat (first | assumption | exact Below.refl _ _ | refine Below.drew ?_ | refine below_drewN ?_ _ | refine Below.alloc ?_ ?_ _ | refine Below.setCell ?_ ?_ _ | (apply Below.size; assumption) | (simp; done) | (simp; omega) | (have hz := hb.size; simp; omega) | (have hz := hb.size; omega) | omega))
  clear hW
  go_still_tail 15, (by kernel_rfl)
  still_call ((cmpI_any _ _ _).mono fun _ _ ⟨h, h'⟩ => ⟨h, h'.symm⟩)
  repeat still_step
  still_call ((cmpI_any _ _ _).mono fun _ _ ⟨h, h'⟩ => ⟨h, h'.symm⟩)
  repeat still_step
  still_call ((cmpS_any _ _ _).mono fun _ _ ⟨h, h'⟩ => ⟨h, h'.symm⟩)
  repeat still_step
  refine wpStill_nil ?_
  change wpList _ _ _ _ _ W.drew
  go_wp2_with (go_at_call 52; go_must (refine (cmpOr_any (some ⟨W.heap.size, 0, none⟩) 3 3 [cmpI x.kind y.kind, cmpI x.n y.n, cmpS x.name y.name] _ (IsI.below ⟨Sl.lit _ _ _ 3 1 3 rfl rfl (by simp [maxLen]), by simp [cmpI_i64, cmpS_i64]⟩ (Below.refl _ _).drew) (by omega)).mono ?_); rintro e w1 ⟨rfl, rfl⟩)
  go_ret
  exact ⟨ret_int Hor.out, (by repeat (first | assumption | exact Below.refl _ _ | refine Below.drew ?_ | refine below_drewN ?_ _ | refine Below.alloc ?_ ?_ _ | refine Below.setCell ?_ ?_ _ | (apply Below.size; assumption) | (simp; done) | (simp; omega) | (have hz := hb.size; simp; omega) | (have hz := hb.size; omega) | omega))⟩

theorem compareT_cons (a b : C) (l r : List C) : compareT (a :: l) (b :: r) = if cmpC a b ≠ 0 then cmpC a b else compareT l r := rfl
set_option maxHeartbeats 800000 in
theorem compareFunc_any (A B : Option Addr) (n m cap cap' : Nat) (xs ys : List C) (w : World) (hx : IsC w A n cap xs) (hy : IsC w B m cap' ys) (hn : n ≤ 100000) (_hm : m ≤ 100000) :
    Calls Try.prog 50 #[.slice A n cap, .slice B m cap', .func (.func 51) #[] #[]] w (RetV w (.int .i64 (compareT xs ys))) := by
  go_enter Try.func50, Try.ntmps50
  go_wp2
  go_loopw [13] (fun i wr => ∃ k : Nat, k ≤ n ∧ k ≤ m ∧ i = .int .i64 k ∧ Hid (compareT (xs.drop k) (ys.drop k) = compareT xs ys) ∧ Below w.heap.size w wr) (fun i _ => n - (intOf i).toNat)
  case atStart => exact ⟨0, Nat.zero_le _, Nat.zero_le _, rfl, rfl, Below.refl _ _⟩
  case round =>
    obtain ⟨k, hk, hkm, rfl, hres, hb⟩ := hrel
    by_cases hlt : k < n
    · obtain ⟨x, hxk⟩ := hx.get hlt
      obtain ⟨b, off, rfl, hbb, hwf, h0, h1, h2⟩ := hx.at_ hxk
      have hd := drop_get hxk
      have Hd := Lib.hid hd
      clear hd hxk
      obtain ⟨hc, hf⟩ := bcell hb
      by_cases hltm : k < m
      · obtain ⟨y, hyk⟩ := hy.get hltm
        obtain ⟨b', off', rfl, hbb', hwf', h0', h1', h2'⟩ := hy.at_ hyk
        have hd' := drop_get hyk
        have Hd' := Lib.hid hd'
        have hbw := Nat.lt_of_lt_of_le hbb hb.size
        have hbw' := Nat.lt_of_lt_of_le hbb' hb.size
        clear hd' hyk
        have hcmp := compare1_any x y
        have Hcmp := Lib.hid hcmp
        clear hcmp
        cases ho : (cmpC x y != 0)
        all_goals
          have Ho := Lib.hid ho
          go_wp2_with (first | (go_at_call 51; go_must (refine (Hcmp.out _).mono ?_); rintro e w1 ⟨rfl, hbn⟩; replace hb := Below.trans (a := w) (B := w.heap.size) (by repeat (first | assumption | exact Below.refl _ _ | refine Below.drew ?_ | refine below_drewN ?_ _ | refine Below.alloc ?_ ?_ _ | refine Below.setCell ?_ ?_ _ | (apply Below.size; assumption) | (simp; done) | (simp; omega) | (have hz := hb.size; simp; omega) | (have hz := hb.size; omega) | omega)) (hbn.mono (by first | exact Nat.le_refl _ | (simp; done) | (have hz := hb.size; simp; omega) | (simp; omega))); clear hbn))
        · go_roundw
          case rel => exact ⟨k + 1, by omega, by omega, by go_num, by have := hres.out; have ho := Ho.out; rw [Hd.out, Hd'.out, compareT_cons, if_neg (by simpa using ho)] at this; exact this, hb⟩
          case measure => simp [intOf]; omega
        · go_ret
          exact ⟨ret_int (by have := hres.out; have ho := Ho.out; rw [Hd.out, Hd'.out, compareT_cons, if_pos (by simpa using ho)] at this; exact this), hb⟩
      · go_wp2
        go_ret
        exact ⟨ret_int (by have := hres.out; rw [Hd.out, drop_end hy.len hltm] at this; exact this), (by repeat (first | assumption | exact Below.refl _ _ | refine Below.drew ?_ | refine below_drewN ?_ _ | refine Below.alloc ?_ ?_ _ | refine Below.setCell ?_ ?_ _ | (apply Below.size; assumption) | (simp; done) | (simp; omega) | (have hz := hb.size; simp; omega) | (have hz := hb.size; omega) | omega))⟩
    · by_cases hnm : n < m
      · obtain ⟨y, hyk⟩ := hy.get (k := k) (by omega)
        have hd' := drop_get hyk
        have Hd' := Lib.hid hd'
        clear hd' hyk
        go_wp2
        go_ret
        exact ⟨ret_int (by have := hres.out; rw [drop_end hx.len hlt, Hd'.out] at this; exact this), hb⟩
      · go_wp2
        go_ret
        exact ⟨ret_int (by have := hres.out; rw [drop_end hx.len hlt, drop_end hy.len (by omega)] at this; exact this), hb⟩
theorem tCompare_any (A B : Option Addr) (n m cap cap' : Nat) (xs ys : List C) (w : World) (hx : IsC w A n cap xs) (hy : IsC w B m cap' ys) (hn : n ≤ 100000) (_hm : m ≤ 100000) :
    Calls Try.prog 32 #[.slice A n cap, .slice B m cap'] w (RetV w (.int .i64 (compareT xs ys))) := by
  go_enter Try.func32, Try.ntmps32
  go_wp2_with (first | (go_at_call 50; go_must (refine (compareFunc_any A B n m cap cap' xs ys _ hx hy hn _hm).mono ?_); rintro e w1 ⟨rfl, hb⟩))
  go_ret
  exact ⟨rfl, hb⟩

set_option maxHeartbeats 800000 in
theorem rCompare_any (A B : Option Addr) (n m cap cap' : Nat) (xs ys : List C) (w : World) (hx : IsC w A n cap xs) (hy : IsC w B m cap' ys) (hn : n ≤ 100000) (_hm : m ≤ 100000) :
    Calls Try.prog 33 #[.slice A n cap, .slice B m cap'] w (RetV w (.int .i64 (compareR xs ys))) := by
  go_enter Try.func33, Try.ntmps33
  go_wp2
  go_loopw [5] (fun i wr => ∃ k : Nat, k ≤ n ∧ k ≤ m ∧ i = .int .i64 k ∧ Hid (compareR (xs.drop k) (ys.drop k) = compareR xs ys) ∧ Below w.heap.size w wr) (fun i _ => n - (intOf i).toNat)
  case atStart => exact ⟨0, Nat.zero_le _, Nat.zero_le _, rfl, rfl, Below.refl _ _⟩
  case round =>
    obtain ⟨k, hk, hkm, rfl, hres, hb⟩ := hrel
    by_cases hlt : k < n ∧ k < m
    · obtain ⟨hlt, hltm⟩ := hlt
      obtain ⟨x, hxk⟩ := hx.get hlt
      obtain ⟨b, off, rfl, hbb, hwf, h0, h1, h2⟩ := hx.at_ hxk
      have hd := drop_get hxk
      have Hd := Lib.hid hd
      clear hd hxk
      obtain ⟨hc, hf⟩ := bcell hb
      obtain ⟨y, hyk⟩ := hy.get hltm
      obtain ⟨b', off', rfl, hbb', hwf', h0', h1', h2'⟩ := hy.at_ hyk
      have hd' := drop_get hyk
      have Hd' := Lib.hid hd'
      have hbw := Nat.lt_of_lt_of_le hbb hb.size
      have hbw' := Nat.lt_of_lt_of_le hbb' hb.size
      clear hd' hyk
      have hq := eqC x y
      cases ho : x.beq y
      · rw [ho] at hq
        have Ho := Lib.hid ho
        clear ho
        go_wp2
        all_goals go_ret
        all_goals refine ⟨ret_int ?_, (by repeat (first | assumption | exact Below.refl _ _ | refine Below.drew ?_ | refine below_drewN ?_ _ | refine Below.alloc ?_ ?_ _ | refine Below.setCell ?_ ?_ _ | (apply Below.size; assumption) | (simp; done) | (simp; omega) | (have hz := hb.size; simp; omega) | (have hz := hb.size; omega) | omega))⟩
        all_goals
          have hr := hres.out
          rw [Hd.out, Hd'.out, compareR, if_neg (by simp [Ho.out])] at hr
          rw [← hr]
          split <;> first | rfl | (exfalso; simp_all; done) | (exfalso; simp_all; omega)
      · rw [ho] at hq
        have Ho := Lib.hid ho
        clear ho
        go_wp2
        go_roundw
        case rel => exact ⟨k + 1, by omega, by omega, by go_num, by have := hres.out; rw [Hd.out, Hd'.out, compareR, if_pos Ho.out] at this; exact this, (by repeat (first | assumption | exact Below.refl _ _ | refine Below.drew ?_ | refine below_drewN ?_ _ | refine Below.alloc ?_ ?_ _ | refine Below.setCell ?_ ?_ _ | (apply Below.size; assumption) | (simp; done) | (simp; omega) | (have hz := hb.size; simp; omega) | (have hz := hb.size; omega) | omega))⟩
        case measure => simp [intOf]; omega
    · have hend : xs.drop k = [] ∨ ys.drop k = [] := by
        by_cases h1 : k < n
        · exact .inr (drop_end hy.len (by omega))
        · exact .inl (drop_end hx.len h1)
      have Hend := Lib.hid hend
      clear hend
      by_cases h1 : k < n
      · have h2 : ¬ k < m := by omega
        go_wp2
        go_ret
        exact ⟨ret_int (by have := hres.out; rw [drop_end hy.len h2] at this; rw [← this]; cases xs.drop k <;> rfl), hb⟩
      · go_wp2
        go_ret
        exact ⟨ret_int (by have := hres.out; rw [drop_end hx.len h1] at this; rw [← this]; rfl), hb⟩
end Go.Proofs.Ytnhfnpjfahmmpaa
