/- Texts of this proof that belong together: words of memory, plain laws, walks. -/
import Derived.Test.YtgipiplklaeplaaDoorB08
import Derived.Test.YtgipiplklaeplaaDoorB09
import Derived.Test.YtgipiplklaeplaaDoorB11
import Derived.Test.YtgipiplklaeplaaDoorB12
set_option linter.unusedVariables false
set_option linter.unusedSimpArgs false
namespace Go.Proofs.YtgipiplklaeplaaDoor
open Go.RowKit
theorem infoC : (Tryd.prog.info? 66).map (fun i => (i.zero, i.size, i.bytes)) = some (some (.agg #[.int .i64 0, .string ⟨#[]⟩, .int .i64 0]), 3, 32) := by kernel_rfl
theorem flatC_set (l : List C) (k : Nat) (x : C) (v : Int) (h : l[k]? = some x) : (flatC l).set (k * 3 + 2) (.int .i64 v) = flatC (l.set k { x with n := v }) := by
 induction l generalizing k with
 | nil => simp at h
 | cons d l ih =>
  cases k with
  | zero => simp at h; subst h; simp [flatC, C.flat]
  | succ k =>
   have := ih k (by simpa using h)
   rw [Nat.succ_mul]
   simp [flatC, C.flat] at this ⊢
   exact this
theorem turn_step (f : Int → Int) {t : List C} {k : Nat} {x : C} (hx : t[k]? = some x) (hk : x.kind = 1) :
  (flatC (turnF f (t.take k) ++ t.drop k)).set (k * 3 + 2) (.int .i64 (f x.n)) = flatC (turnF f (t.take (k + 1)) ++ t.drop (k + 1)) := by
 obtain ⟨hl, he⟩ := List.getElem?_eq_some_iff.1 hx
 have hlen : (turnF f (t.take k)).length = k := by simp [turnF]; omega
 rw [flatC_set _ k x]
 ·congr 1
  rw [List.set_append_right _ _ (by omega), hlen, Nat.sub_self, drop_get hx, List.take_succ_eq_append_getElem hl, he]
  simp [turnF, hk]
 ·rw [List.getElem?_append_right (by omega), hlen, Nat.sub_self, drop_get hx]
  rfl
theorem turn_keep (f : Int → Int) {t : List C} {k : Nat} {x : C} (hx : t[k]? = some x) (hk : x.kind ≠ 1) :
  turnF f (t.take k) ++ t.drop k = turnF f (t.take (k + 1)) ++ t.drop (k + 1) := by
 obtain ⟨hl, he⟩ := List.getElem?_eq_some_iff.1 hx
 rw [drop_get hx, List.take_succ_eq_append_getElem hl, he]
 simp [turnF, hk]
theorem turn_wf {f : Int → Int} (hf : ∀ x, i64 (f x)) {t : List C} (h : ∀ c ∈ t, c.wf) : ∀ c ∈ turnF f t, c.wf := by
 intro c hc
 obtain ⟨d, hd, rfl⟩ := List.mem_map.1 hc
 have := h d hd
 split
 ·exact ⟨this.kind, hf _, this.name⟩
 ·exact this
theorem wrap64_i64 (n : Int) : i64 (wrap64 n) := by unfold i64 wrap64; omega
theorem place_i64 (ns : List Int) (x : Int) (h : ns.length ≤ 100000) : i64 (placeI ns x) := by
 have := idxF_le (fun y => y == x) ns 0
 unfold i64 placeI
 omega
set_option maxHeartbeats 400000 in
theorem clone_any (A : Option Addr) (n cap : Nat) (t : List C) (w : World) (h : IsC w A n cap t) (hn : n ≤ 100000) :
  Calls Tryd.prog 44 #[.slice A n cap] w fun e w' => ∃ A' cap', e = .returned (.slice A' n cap') ∧ w'.ownsRow w.heap.size 66 3 (.slice A' n cap') n (flatC t) ∧ Below w.heap.size w w' := by
 cases A with
 | none =>
  have hnil : ∀ w : World, (binOp .eql 22 (.slice none n cap) (.slice none 0 0)).run Tryd.prog w = .ok (.bool true) w := fun w => Lib.run_eql_slice_nil w 22 66 none n cap 0 0 Tryd.underlying22
  have h0 : n = 0 := by
   rcases Nat.eq_zero_or_pos n with h0 | h0
   ·exact h0
   ·obtain ⟨b, off, hA, _⟩ := h.sl.cells h0
    cases hA
  subst h0
  have ht : t = [] := List.eq_nil_of_length_eq_zero h.len
  subst ht
  go_enter Tryd.func44, Tryd.ntmps44
  go_wp2
  go_ret
  exact ⟨_, _, rfl, World.ownsRow_nil _ _ _ _, Below.refl _ _⟩
 | some ad =>
  have hnil : ∀ w : World, (binOp .eql 22 (.slice (some ad) n cap) (.slice none 0 0)).run Tryd.prog w = .ok (.bool false) w := fun w => Lib.run_eql_slice_nil w 22 66 (some ad) n cap 0 0 Tryd.underlying22
  go_enter Tryd.func44, Tryd.ntmps44
  go_wp2_with (first | (at_builtin; go_must (refine wpList_append_sl rfl (.tmp 5) (.tmp 6) 22 rfl w.heap.size 66 Tryd.underlying22 infoC rfl (by omega) rfl (World.ownsRow_lit w #[] 0 (Nat.le_refl _) (by simp [maxLen]) rfl) rfl (h.sl.below (by repeat (first | assumption | exact Below.refl _ _ | refine Below.drew ?_ | refine below_drewN ?_ _ | refine Below.alloc ?_ ?_ _ | refine Below.setCell ?_ ?_ _ | (apply Below.size; assumption) | (simp; done) | (simp; omega) | (have hz := hb.size; simp; omega) | (have hz := hb.size; omega) | omega))) (oneC t) (by omega) (by omega) (by simp) ?_); intro A' cap' w1 hown1 hb1 _ _))
  go_ret
  refine ⟨A', cap', by simp, by simpa using hown1, ?_⟩
  exact Below.trans (by repeat (first | assumption | exact Below.refl _ _ | refine Below.drew ?_ | refine below_drewN ?_ _ | refine Below.alloc ?_ ?_ _ | refine Below.setCell ?_ ?_ _ | (apply Below.size; assumption) | (simp; done) | (simp; omega) | (have hz := hb.size; simp; omega) | (have hz := hb.size; omega) | omega)) hb1
theorem IsC.nil0 (w : World) : IsC w none 0 0 [] := IsC.nil w none 0 (by simp [maxLen])
theorem shiftF_yes {t : List C} {v : Int} (h : rightB (turnF (fun n : Int => wrap64 (n + v)) t) = true) : shiftF t v = turnF (fun n : Int => wrap64 (n + v)) t := by simp [shiftF, h]
theorem shiftF_no {t : List C} {v : Int} (h : rightB (turnF (fun n : Int => wrap64 (n + v)) t) = false) : shiftF t v = [] := by simp [shiftF, h]
theorem varsA_len : ∀ (cs : List C) (acc : List Int), (varsA acc cs).length ≤ acc.length + cs.length
 | [], acc => by simp [varsA]
 | c :: cs, acc => by
  rw [varsA_cons]
  split
  ·have := varsA_len cs (acc ++ [c.n]); simp at this ⊢; omega
  ·have := varsA_len cs acc; simp; omega
theorem varsF_len (t : List C) : (varsF t).length ≤ t.length := by have := varsA_len t []; simpa [varsF] using this
set_option maxHeartbeats 800000 in
theorem rShift_any (A : Option Addr) (n cap : Nat) (t : List C) (v : Int) (w : World) (h : IsC w A n cap t) (hn : n ≤ 100000) :
  Calls Tryd.prog 33 #[.slice A n cap, .int .i64 v] w (RetC w (shiftF t v)) := by
 have hl := h.len
 have Hl := Lib.hid hl
 clear hl
 go_enter Tryd.func33, Tryd.ntmps33
 go_wp2_with (first
  | (at_builtin; go_must (refine wpList_append_sl rfl (.tmp 7) (.tmp 8) 22 rfl w.heap.size 66 Tryd.underlying22 infoC rfl (by omega) rfl (World.ownsRow_lit _ #[] 0 (Nat.le_refl _) (by simp [maxLen]) rfl) rfl (h.sl.below (by repeat (first | assumption | exact Below.refl _ _ | refine Below.drew ?_ | refine below_drewN ?_ _ | refine Below.alloc ?_ ?_ _ | refine Below.setCell ?_ ?_ _ | (apply Below.size; assumption) | (simp; done) | (simp; omega) | (have hz := hb.size; simp; omega) | (have hz := hb.size; omega) | omega))) (oneC t) (by omega) (by omega) (by repeat (first | assumption | exact Below.refl _ _ | refine Below.drew ?_ | refine below_drewN ?_ _ | refine Below.alloc ?_ ?_ _ | refine Below.setCell ?_ ?_ _ | (apply Below.size; assumption) | (simp; done) | (simp; omega) | (have hz := hb.size; simp; omega) | (have hz := hb.size; omega) | omega)) ?_); intro A0 cap0 w0 hown0 hb0 _ _; replace hown0 : w0.ownsRow w.heap.size 66 3 (.slice A0 n cap0) n (flatC t) := by simpa using hown0))
 have hb0' : Below w.heap.size w w0 := Below.trans (by repeat (first | assumption | exact Below.refl _ _ | refine Below.drew ?_ | refine below_drewN ?_ _ | refine Below.alloc ?_ ?_ _ | refine Below.setCell ?_ ?_ _ | (apply Below.size; assumption) | (simp; done) | (simp; omega) | (have hz := hb.size; simp; omega) | (have hz := hb.size; omega) | omega)) hb0
 go_loopw [6] (fun i wr => ∃ (k : Nat), k ≤ n ∧ i = .int .i64 k ∧ wr.ownsRow w.heap.size 66 3 (.slice A0 n cap0) n (flatC (turnF (fun n : Int => wrap64 (n + v)) (t.take k) ++ t.drop k)) ∧ Below w.heap.size w wr) (fun i _ => n - (intOf i).toNat)
 case atStart => exact ⟨0, Nat.zero_le _, rfl, by simpa [turnF] using hown0, hb0'⟩
 case round =>
  obtain ⟨k, hk, rfl, hown, hb⟩ := hrel
  by_cases hlt : k < n
  ·obtain ⟨x, hxk⟩ := h.get hlt
   have hwf := h.wf x (List.mem_of_getElem? hxk)
   obtain ⟨gg, rfl⟩ : ∃ gg, A0 = some ⟨gg, 0, none⟩ := by
    obtain ⟨g, cap', hv, _⟩ := hown.form (by omega)
    injection hv with hv
    exact ⟨g, hv⟩
   have hxk' : (turnF (fun n : Int => wrap64 (n + v)) (t.take k) ++ t.drop k)[k]? = some x := by
    rw [List.getElem?_append_right (by simp [turnF]; omega)]
    have := Hl.out
    simp [turnF, hxk, show min k t.length = k by omega]
   obtain ⟨f0, f1, f2⟩ := flatC_get _ _ _ hxk'
   have hkl : k * 3 + 2 < n * 3 := by omega
   have h0 := (hown.cellAt (k * 3) (by omega)).trans f0
   have h1 := (hown.cellAt (k * 3 + 1) (by omega)).trans f1
   have h2 := (hown.cellAt (k * 3 + 2) (by omega)).trans f2
   have hz0 := hown.frozenAt (k * 3 + 2)
   have hgl := (hown.lt gg rfl)
   obtain ⟨hg1, hg2⟩ := hgl
   have hset : x.kind = 1 → (flatC (turnF (fun n : Int => wrap64 (n + v)) (t.take k) ++ t.drop k)).set (k * 3 + 2) (.int .i64 ((fun n : Int => wrap64 (n + v)) x.n)) = flatC (turnF (fun n : Int => wrap64 (n + v)) (t.take (k + 1)) ++ t.drop (k + 1)) := fun hk1 => turn_step (fun n : Int => wrap64 (n + v)) hxk hk1
   have hkeep : x.kind ≠ 1 → turnF (fun n : Int => wrap64 (n + v)) (t.take k) ++ t.drop k = turnF (fun n : Int => wrap64 (n + v)) (t.take (k + 1)) ++ t.drop (k + 1) := fun hk1 => turn_keep (fun n : Int => wrap64 (n + v)) hxk hk1
   have Hset := Lib.hid hset
   have Hkeep := Lib.hid hkeep
   clear hset hkeep hxk hxk' f0 f1 f2
   obtain ⟨hc, hf⟩ := bcell hb
   by_cases hk1 : x.kind = 1
   ·have hbk : (x.kind == 1) = true := by simp [hk1]
    have Hk1 := Lib.hid hk1
    clear hk1
    go_wp2
    go_roundw
    case rel =>
     refine ⟨k + 1, by omega, by go_num, ?_, ?_⟩
     ·rw [← Hset.out Hk1.out]
      exact (hown.stored (k * 3 + 2) _).1
     ·exact Below.setCell (p := ⟨gg, k * 3 + 2, none⟩) hb hg1 _
    case measure => simp [intOf]; omega
   ·have hbk : (x.kind == 1) = false := by simp [hk1]
    have Hk1 := Lib.hid hk1
    clear hk1
    go_wp2
    go_roundw
    case rel => exact ⟨k + 1, by omega, by go_num, by rw [← Hkeep.out Hk1.out]; exact hown, hb⟩
    case measure => simp [intOf]; omega
  ·have hkn : k = n := by omega
   subst hkn
   have hfin : turnF (fun n : Int => wrap64 (n + v)) (t.take k) ++ t.drop k = turnF (fun n : Int => wrap64 (n + v)) t := by rw [drop_end Hl.out (by omega), List.take_of_length_le (by rw [Hl.out]; exact Nat.le_refl _)]; simp
   rw [hfin] at hown
   have hres : IsC wr A0 k cap0 (turnF (fun n : Int => wrap64 (n + v)) t) := ⟨Sl.own hown (by omega), turn_wf (fun n => wrap64_i64 _) h.wf⟩
   clear hfin
   cases hr : rightB (turnF (fun n : Int => wrap64 (n + v)) t)
   all_goals
    have Hr := Lib.hid hr
    clear hr
    go_wp2_with (first
     | (go_at_call 75; go_must (refine (rRight_any A0 k cap0 _ _ hres hn).mono ?_); rw [Hr.out]; rintro e w2 ⟨rfl, hb2⟩; replace hb := hb.trans (hb2.mono hb.size)))
    go_ret
   ·rw [shiftF_no Hr.out]
    exact ⟨_, _, _, rfl, IsC.nil0 _, hb⟩
   ·rw [shiftF_yes Hr.out]
    exact ⟨_, _, _, rfl, hres.below hb2, hb⟩
set_option maxHeartbeats 800000 in
theorem rNumber_any (A : Option Addr) (n cap : Nat) (t : List C) (w : World) (h : IsC w A n cap t) (hn : n ≤ 100000) :
  Calls Tryd.prog 25 #[.slice A n cap] w (RetC w (numberF t)) := by
 have hl := h.len
 have Hl := Lib.hid hl
 clear hl
 have hvl := varsF_len t
 rw [h.len] at hvl
 go_enter Tryd.func25, Tryd.ntmps25
 go_wp2_with (first
  | (go_at_call 28; go_must (refine (rVars_any A n cap t _ h hn).mono ?_); rintro e w1 ⟨A1, n1, c1, rfl, hv1, hbv⟩; have hn1 : n1 ≤ 100000 := by rw [← hv1.len]; omega)
  | (at_builtin; go_must (refine wpList_append_sl rfl (.tmp 8) (.tmp 9) 22 rfl w1.heap.size 66 Tryd.underlying22 infoC rfl (by omega) rfl (World.ownsRow_lit _ #[] 0 (Nat.le_refl _) (by simp [maxLen]) rfl) rfl (h.sl.below (by exact hbv.alloc hbv.size _)) (oneC t) (by omega) (by omega) (by simp) ?_); intro A0 cap0 w0 hown0 hb0 _ _; replace hown0 : w0.ownsRow w1.heap.size 66 3 (.slice A0 n cap0) n (flatC t) := by simpa using hown0))
 have hb0' : Below w1.heap.size w1 w0 := Below.trans ((Below.refl _ _).alloc (Nat.le_refl _) _) hb0
 go_loopw [5] (fun i wr => ∃ (k : Nat), k ≤ n ∧ i = .int .i64 k ∧ wr.ownsRow w1.heap.size 66 3 (.slice A0 n cap0) n (flatC (turnF (placeI (varsF t)) (t.take k) ++ t.drop k)) ∧ Below w1.heap.size w1 wr) (fun i _ => n - (intOf i).toNat)
 case atStart => exact ⟨0, Nat.zero_le _, rfl, by simpa [turnF] using hown0, hb0'⟩
 case round =>
  obtain ⟨k, hk, rfl, hown, hb⟩ := hrel
  by_cases hlt : k < n
  ·obtain ⟨x, hxk⟩ := h.get hlt
   have hwf := h.wf x (List.mem_of_getElem? hxk)
   obtain ⟨gg, rfl⟩ : ∃ gg, A0 = some ⟨gg, 0, none⟩ := by
    obtain ⟨g, cap', hv, _⟩ := hown.form (by omega)
    injection hv with hv
    exact ⟨g, hv⟩
   have hxk' : (turnF (placeI (varsF t)) (t.take k) ++ t.drop k)[k]? = some x := by
    rw [List.getElem?_append_right (by simp [turnF]; omega)]
    have := Hl.out
    simp [turnF, hxk, show min k t.length = k by omega]
   obtain ⟨f0, f1, f2⟩ := flatC_get _ _ _ hxk'
   have hkl : k * 3 + 2 < n * 3 := by omega
   have h0 := (hown.cellAt (k * 3) (by omega)).trans f0
   have h1 := (hown.cellAt (k * 3 + 1) (by omega)).trans f1
   have h2 := (hown.cellAt (k * 3 + 2) (by omega)).trans f2
   have hz0 := hown.frozenAt (k * 3 + 2)
   have hgl := (hown.lt gg rfl)
   obtain ⟨hg1, hg2⟩ := hgl
   have hset : x.kind = 1 → (flatC (turnF (placeI (varsF t)) (t.take k) ++ t.drop k)).set (k * 3 + 2) (.int .i64 ((placeI (varsF t)) x.n)) = flatC (turnF (placeI (varsF t)) (t.take (k + 1)) ++ t.drop (k + 1)) := fun hk1 => turn_step (placeI (varsF t)) hxk hk1
   have hkeep : x.kind ≠ 1 → turnF (placeI (varsF t)) (t.take k) ++ t.drop k = turnF (placeI (varsF t)) (t.take (k + 1)) ++ t.drop (k + 1) := fun hk1 => turn_keep (placeI (varsF t)) hxk hk1
   have Hset := Lib.hid hset
   have Hkeep := Lib.hid hkeep
   clear hset hkeep hxk hxk' f0 f1 f2
   obtain ⟨hc, hf⟩ := bcell hb
   by_cases hk1 : x.kind = 1
   ·have hbk : (x.kind == 1) = true := by simp [hk1]
    have Hk1 := Lib.hid hk1
    clear hk1
    have hvr : IsI wr A1 n1 c1 (varsF t) := hv1.below hb
    go_wp2_with (first | (go_at_call 65; go_must (refine (Place_any A1 n1 c1 (varsF t) x.n _ hvr hn1).mono ?_); rintro e w2 ⟨rfl, rfl⟩))
    go_roundw
    case rel =>
     refine ⟨k + 1, by omega, by go_num, ?_, ?_⟩
     ·rw [← Hset.out Hk1.out]
      exact (hown.stored (k * 3 + 2) _).1
     ·exact Below.setCell (p := ⟨gg, k * 3 + 2, none⟩) hb hg1 _
    case measure => simp [intOf]; omega
   ·have hbk : (x.kind == 1) = false := by simp [hk1]
    have Hk1 := Lib.hid hk1
    clear hk1
    go_wp2
    go_roundw
    case rel => exact ⟨k + 1, by omega, by go_num, by rw [← Hkeep.out Hk1.out]; exact hown, hb⟩
    case measure => simp [intOf]; omega
  ·have hkn : k = n := by omega
   subst hkn
   have hfin : turnF (placeI (varsF t)) (t.take k) ++ t.drop k = turnF (placeI (varsF t)) t := by rw [drop_end Hl.out (by omega), List.take_of_length_le (by rw [Hl.out]; exact Nat.le_refl _)]; simp
   rw [hfin] at hown
   have hres : IsC wr A0 k cap0 (turnF (placeI (varsF t)) t) := ⟨Sl.own hown (by omega), turn_wf (fun n => place_i64 (varsF t) n (by omega)) h.wf⟩
   clear hfin
   go_wp2
   go_ret
   exact ⟨_, _, _, rfl, hres, hbv.trans (hb.mono hbv.size)⟩
end Go.Proofs.YtgipiplklaeplaaDoor
namespace Go.Proofs.YtgipiplklaeplaaDoor
open Go.RowKit
set_option maxHeartbeats 400000 in
theorem cloneS_any (A : Option Addr) (n cap : Nat) (t : List C) (w : World) (h : IsC w A n cap t) (hn : n ≤ 100000) :
  Calls Tryd.prog 56 #[.slice A n cap] w fun e w' => ∃ A' cap', e = .returned (.slice A' n cap') ∧ w'.ownsRow w.heap.size 90 3 (.slice A' n cap') n (flatC t) ∧ Below w.heap.size w w' := by
 cases A with
 | none =>
  have hnil : ∀ w : World, (binOp .eql 41 (.slice none n cap) (.slice none 0 0)).run Tryd.prog w = .ok (.bool true) w := fun w => Lib.run_eql_slice_nil w 41 90 none n cap 0 0 Tryd.underlying41
  have h0 : n = 0 := by
   rcases Nat.eq_zero_or_pos n with h0 | h0
   ·exact h0
   ·obtain ⟨b, off, hA, _⟩ := h.sl.cells h0
    cases hA
  subst h0
  have ht : t = [] := List.eq_nil_of_length_eq_zero h.len
  subst ht
  go_enter Tryd.func56, Tryd.ntmps56
  go_wp2
  go_ret
  exact ⟨_, _, rfl, World.ownsRow_nil _ _ _ _, Below.refl _ _⟩
 | some ad =>
  have hnil : ∀ w : World, (binOp .eql 41 (.slice (some ad) n cap) (.slice none 0 0)).run Tryd.prog w = .ok (.bool false) w := fun w => Lib.run_eql_slice_nil w 41 90 (some ad) n cap 0 0 Tryd.underlying41
  go_enter Tryd.func56, Tryd.ntmps56
  go_wp2_with (first | (at_builtin; go_must (refine wpList_append_sl rfl (.tmp 5) (.tmp 6) 41 rfl w.heap.size 90 Tryd.underlying41 infoS rfl (by omega) rfl (World.ownsRow_lit w #[] 0 (Nat.le_refl _) (by simp [maxLen]) rfl) rfl (h.sl.below (by repeat (first | assumption | exact Below.refl _ _ | refine Below.drew ?_ | refine below_drewN ?_ _ | refine Below.alloc ?_ ?_ _ | refine Below.setCell ?_ ?_ _ | (apply Below.size; assumption) | (simp; done) | (simp; omega) | (have hz := hb.size; simp; omega) | (have hz := hb.size; omega) | omega))) (oneC t) (by omega) (by omega) (by simp) ?_); intro A' cap' w1 hown1 hb1 _ _))
  go_ret
  refine ⟨A', cap', by simp, by simpa using hown1, ?_⟩
  exact Below.trans (by repeat (first | assumption | exact Below.refl _ _ | refine Below.drew ?_ | refine below_drewN ?_ _ | refine Below.alloc ?_ ?_ _ | refine Below.setCell ?_ ?_ _ | (apply Below.size; assumption) | (simp; done) | (simp; omega) | (have hz := hb.size; simp; omega) | (have hz := hb.size; omega) | omega)) hb1
set_option maxHeartbeats 400000 in
theorem cloneI_any (A : Option Addr) (n cap : Nat) (t : List Int) (w : World) (h : IsI w A n cap t) (hn : n ≤ 100000) :
  Calls Tryd.prog 57 #[.slice A n cap] w fun e w' => ∃ A' cap', e = .returned (.slice A' n cap') ∧ w'.ownsRow w.heap.size 3 1 (.slice A' n cap') n (t.map (Value.int .i64)) ∧ Below w.heap.size w w' := by
 cases A with
 | none =>
  have hnil : ∀ w : World, (binOp .eql 42 (.slice none n cap) (.slice none 0 0)).run Tryd.prog w = .ok (.bool true) w := fun w => Lib.run_eql_slice_nil w 42 3 none n cap 0 0 Tryd.underlying42
  have h0 : n = 0 := by
   rcases Nat.eq_zero_or_pos n with h0 | h0
   ·exact h0
   ·obtain ⟨b, off, hA, _⟩ := h.sl.cells h0
    cases hA
  subst h0
  have ht : t = [] := List.eq_nil_of_length_eq_zero h.len
  subst ht
  go_enter Tryd.func57, Tryd.ntmps57
  go_wp2
  go_ret
  exact ⟨_, _, rfl, World.ownsRow_nil _ _ _ _, Below.refl _ _⟩
 | some ad =>
  have hnil : ∀ w : World, (binOp .eql 42 (.slice (some ad) n cap) (.slice none 0 0)).run Tryd.prog w = .ok (.bool false) w := fun w => Lib.run_eql_slice_nil w 42 3 (some ad) n cap 0 0 Tryd.underlying42
  go_enter Tryd.func57, Tryd.ntmps57
  go_wp2_with (first | (at_builtin; go_must (refine wpList_append_sl rfl (.tmp 5) (.tmp 6) 42 rfl w.heap.size 3 Tryd.underlying42 infoI rfl (by omega) rfl (World.ownsRow_lit w #[] 0 (Nat.le_refl _) (by simp [maxLen]) rfl) rfl (h.sl.below (by repeat (first | assumption | exact Below.refl _ _ | refine Below.drew ?_ | refine below_drewN ?_ _ | refine Below.alloc ?_ ?_ _ | refine Below.setCell ?_ ?_ _ | (apply Below.size; assumption) | (simp; done) | (simp; omega) | (have hz := hb.size; simp; omega) | (have hz := hb.size; omega) | omega))) (oneI _ t) (by omega) (by omega) (by simp) ?_); intro A' cap' w1 hown1 hb1 _ _))
  go_ret
  refine ⟨A', cap', by simp, by simpa using hown1, ?_⟩
  exact Below.trans (by repeat (first | assumption | exact Below.refl _ _ | refine Below.drew ?_ | refine below_drewN ?_ _ | refine Below.alloc ?_ ?_ _ | refine Below.setCell ?_ ?_ _ | (apply Below.size; assumption) | (simp; done) | (simp; omega) | (have hz := hb.size; simp; omega) | (have hz := hb.size; omega) | omega)) hb1
end Go.Proofs.YtgipiplklaeplaaDoor
namespace Go.Proofs.YtgipiplklaeplaaDoor
open Go.RowKit
def RetPut (w : World) (A B : Option Addr) (n c m d : Nat) (r : Int) (p : List C × Nat × List Int) (e : Ending) (w' : World) : Prop :=
 if (p.1.length : Int) ≤ r then ∃ A' n' c' D k d', e = .returned (.tuple #[.agg #[.slice A' n' c', .slice B m d, .int .i64 r], .int .i64 p.2.1, .slice D k d', .int .i64 0]) ∧ IsC w' A' n' c' p.1 ∧ IsI w' D k d' p.2.2 ∧ Below w.heap.size w w' ∧ (k ≠ 0 → ∀ a, D = some a → w.heap.size ≤ a.block)
 else e = .returned (.tuple #[.agg #[.slice A n c, .slice B m d, .int .i64 r], .int .i64 0, .slice none 0 0, .int .i64 80]) ∧ Below w.heap.size w w'
theorem Ly.isC {w : World} {base : Nat} {l : List C} {A : Option Addr} {n c : Nat} (h : Own0 w base 90 3 (.slice A n c) n (flatC l)) (hw : ∀ c ∈ l, c.wf) : IsC w A n c l := ⟨h.sl (by omega), hw⟩
theorem Ly.isI {w : World} {base : Nat} {l : List Int} {A : Option Addr} {n c : Nat} (h : Own0 w base 3 1 (.slice A n c) n (l.map (Value.int .i64))) (hw : ∀ c ∈ l, i64 c) : IsI w A n c l := ⟨h.sl (by omega), hw⟩
theorem own0_low {w : World} {base size n cap : Nat} {e : TypeId} {A : Option Addr} {xs : List Value} (h : Own0 w base e size (.slice A n cap) n xs) (hn : n ≠ 0) : ∀ a, A = some a → base ≤ a.block := by
 rcases h with ⟨A', _, h0, _⟩ | h
 ·exact absurd h0 hn
 ·exact fun a ha => (Own0.lt h a ha).1
set_option maxRecDepth 100000 in
set_option maxHeartbeats 8000000 in
theorem hPut_f (s : ByteArray) (us : List Tm) (A B D At : Option Addr) (n c m d p e k kc : Nat) (r : Int) (l : List C) (a : List Int) (w : World) (h : IsC w A n c l) (ht : IsC w At k kc (Tm.f s us).flat) (hD : IsI w D p e a)
  (hT : (Tm.f s us).ok = true) (hTs : (Tm.f s us).size ≤ 200) (hn : n ≤ 50000) (hp : p ≤ 50000) :
  Calls Tryd.prog 40 #[.agg #[.slice A n c, .slice B m d, .int .i64 r], .slice At k kc, .slice D p e] w (RetPut w A B n c m d r (putA l (.f s us) a)) := by
 have hnl := h.len
 have hpl := hD.len
 generalize hPR : putA l (.f s us) a = PR
 have HPR := Lib.hid hPR
 clear hPR
 obtain ⟨b0, off0, rfl, hb00, e0, e1, e2, hn0⟩ := ht.tm0
 have hn0' : (0 : Int) < (k : Int) := by omega
 simp only [Tm.c0] at e0 e1 e2
 have HC := Lib.hid h
 have HD := Lib.hid hD
 have HT := Lib.hid ht
 clear h hD ht
 have hcs := fun wz (hb : Below w.heap.size w wz) => cloneS_any A n c l wz (HC.out.below hb) (by omega)
 have hci := fun wz (hb : Below w.heap.size w wz) => cloneI_any D p e a wz (HD.out.below hb) (by omega)
 have Hcs := Lib.hid hcs
 have Hci := Lib.hid hci
 clear hcs hci
 go_enter Tryd.func40, Tryd.ntmps40
 go_upto_region 1 with fail
 refine wp_world' (Φ := fun X => Below w.heap.size w X ∧ X.heap.size = w.heap.size + 2 ∧ X.heap[w.heap.size]? = some (.cells #[.slice A n c, .slice B m d, .int .i64 r] 44 (0, 0)) ∧ X.heap[w.heap.size + 1]? = some (.cells #[.slice none 0 0, .slice none 0 0, .int .i64 0] 44 (0, 0)))
  ⟨((Below.refl _ _).alloc (Nat.le_refl _) _).alloc (by first | omega | (simp; done) | (simp; omega)) _, (by first | omega | (simp; done) | (simp; omega)), (alloc_past (by first | omega | (simp; done) | (simp; omega))).trans (alloc_at rfl), alloc_at (by first | omega | (simp; done) | (simp; omega))⟩ ?_
 rintro X ⟨hbX, hX1, x0, x1⟩
 obtain ⟨g0, hg0⟩ : ∃ g0, g0 = w.heap.size := ⟨_, rfl⟩
 obtain ⟨g1, hg1⟩ : ∃ g1, g1 = w.heap.size + 1 := ⟨_, rfl⟩
 rw [← hg1] at x1 ⊢
 rw [← hg0] at x0 ⊢
 have HbX := Lib.hid hbX
 have hg0b : g0 < X.heap.size := by omega
 have hg1b : g1 < X.heap.size := by omega
 have hg0w' : w.heap.size ≤ g0 := by omega
 have hg1w' : w.heap.size ≤ g1 := by omega
 have hg01' : ¬ g0 = g1 := by omega
 have hwB : w.heap.size ≤ X.heap.size := by omega
 obtain ⟨y0, y1, y2, yl⟩ := open3 x0
 clear hX1 hg0 hg1 hbX
 go_upto_region 2 with (first
  | (go_at_call 56; go_must (refine (Hcs.out _ HbX.out).mono ?_); rintro e w1 ⟨A1, c1, rfl, ho1, hb1⟩; have hx1 := (hb1.block g0 hg0b).trans x0)
  | (go_at_call 57; go_must (refine (Hci.out _ (HbX.out.trans (hb1.mono hwB))).mono ?_); rintro e w2 ⟨D1, d1, rfl, ho2, hb2⟩))
 obtain ⟨bl, hbl⟩ : ∃ bl, bl = w2.heap.size := ⟨_, rfl⟩
 have hs1 := hb1.size
 have hs2 := hb2.size
 rw [← hbl]
 refine wp_world' (Φ := fun Y => Below X.heap.size X Y ∧ Ly Y X.heap.size bl 136 l a ∧ Y.cell? ⟨bl, 0, none⟩ = some (.slice A1 n c1)) ⟨?_, ⟨⟨A1, n, c1, D1, p, d1, by omega, alloc_at hbl.symm, .inr ?_, .inr ?_⟩, HC.out.wf, HD.out.wf⟩, cells_of (alloc_at hbl.symm) 0⟩ ?_
 ·exact (hb1.trans (hb2.mono hs1)).alloc (by omega) _
 ·exact ((own_below ho1 hb2).alloc _)
 ·exact (own_lower ho2 hs1).alloc _
 rintro Y ⟨hbY, hLY, q0⟩
 have hbl2 : X.heap.size ≤ bl := by omega
 have hYb := (hbY.block g0 hg0b).trans x0
 have hbYw := HbX.out.trans (hbY.mono hwB)
 have e0' := (hbYw.cell (p := ⟨b0, off0, none⟩) hb00).trans e0
 have hb0Y : b0 < Y.heap.size := Nat.lt_of_lt_of_le hb00 hbYw.size
 have hYX : X.heap.size ≤ Y.heap.size := hbY.size
 have hlY := hLY.lt.2
 clear ho1 ho2 hb1 hb2 hx1 hs1 hs2 hbl e0
 have hwh := lwhole_any w X.heap.size bl hwB (Tm.f s us).size (Tm.f s us) l a (some ⟨b0, off0, none⟩) k kc Y (Nat.le_refl _) rfl HT.out hbYw hLY hT hTs (by have := hs_size (.f s us); omega) (by omega) hYX
 have Hwh := Lib.hid hwh
 have HbY := Lib.hid hbY
 clear hwh hbY hLY hYb hbYw
 go_upto_region 8 with (first
  | (go_at_call 76; go_must (refine Hwh.out.mono ?_); rintro e Z ⟨rfl, hLz, hbz0, hkz⟩))
 have hbz := HbY.out.trans hbz0
 have hputA : putA l (.f s us) a = (l ++ (layA (.f s us) l.length a).1, l.length, (layA (.f s us) l.length a).2) := rfl
 have hLlen : (l ++ (layA (.f s us) l.length a).1).length ≤ 100000 := by have := hs_size (.f s us); simp [layA_len]; omega
 have HPL : Hid (PR = (l ++ (layA (.f s us) l.length a).1, l.length, (layA (.f s us) l.length a).2)) := Lib.hid (HPR.out.symm.trans hputA)
 clear HPR hputA Hwh
 generalize l ++ (layA (.f s us) l.length a).1 = L at *
 generalize (layA (.f s us) l.length a).2 = b at *
 clear hbz0 hkz e0' hb0Y q0 hlY
 obtain ⟨A2, n2, c2, B2, m2, d2, p1, p2, p3, p4⟩ := hLz.has
 have hlz := own0_len p3
 rw [flatC_len] at hlz
 have HlenL : Hid (L.length = n2) := Lib.hid (by omega)
 have hn2 : n2 ≤ 100000 := by omega
 obtain ⟨r0, r1, rl⟩ := open2 p2
 have z0 := (hbz.block g0 hg0b).trans x0
 have z1 := (hbz.block g1 hg1b).trans x1
 obtain ⟨u0, u1, u2, ul⟩ := open3 z0
 obtain ⟨v0, v1, v2, vl⟩ := open3 z1
 have P3 := Lib.hid p3
 have P4 := Lib.hid p4
 have Wfc := Lib.hid hLz.wfc
 have Wfi := Lib.hid hLz.wfi
 have Nc0 := Lib.hid (own0_ne p3 z0 (by intro cur he; simp at he))
 have Nc1 := Lib.hid (own0_ne p3 z1 (by intro cur he; simp at he))
 have Ni0 := Lib.hid (own0_ne p4 z0 (by intro cur he; simp at he))
 have Ni1 := Lib.hid (own0_ne p4 z1 (by intro cur he; simp at he))
 have Hbw := Lib.hid (HbX.out.trans (hbz.mono hwB))
 have hwZ := Hbw.out.size
 have uf0 := frozen_of z0 0
 have vf0 := frozen_of z1 0
 have vf1 := frozen_of z1 1
 have vf2 := frozen_of z1 2
 have hg0w : w.heap.size ≤ g0 := hg0w'
 have hg1w : w.heap.size ≤ g1 := hg1w'
 have hg01 : ¬ g0 = g1 := hg01'
 have hg0l : ¬ g0 = bl := by omega
 have hg1l : ¬ g1 = bl := by omega
 clear hlz p2 p3 p4 x0 x1 z0 z1 hbz hLz
 by_cases hfit : (n2 : Int) ≤ r
 ·have hd : decide (r < (n2 : Int)) = false := by simp; omega
  have Hfit : Hid (((L.length : Nat) : Int) ≤ r) := Lib.hid (by rw [HlenL.out]; exact hfit)
  clear hfit
  go_upto_region 8 with fail
  go_quiet (fail)
  go_upto_region 11 with fail
  refine wp_world' (Φ := fun V => V.cell? ⟨g0, 0, none⟩ = some (.slice A2 n2 c2) ∧ V.cell? ⟨g0, 1, none⟩ = some (.slice B m d) ∧ V.cell? ⟨g0, 2, none⟩ = some (.int .i64 r) ∧ V.cell? ⟨bl, 1, none⟩ = some (.slice B2 m2 d2) ∧
   V.cell? ⟨g1, 0, none⟩ = some (.slice none 0 0) ∧ V.cell? ⟨g1, 1, none⟩ = some (.slice none 0 0) ∧ V.cell? ⟨g1, 2, none⟩ = some (.int .i64 0) ∧ V.frozen? ⟨g1, 0, none⟩ = false ∧ V.frozen? ⟨g1, 1, none⟩ = false ∧ V.frozen? ⟨g1, 2, none⟩ = false ∧
   (∀ g, g ≠ g0 → V.heap[g]? = Z.heap[g]?) ∧ Below w.heap.size w V ∧ g1 < V.heap.size) ⟨(by first | (simp [*]; done) | (go_simp; done) | (go_simp; simp [*]; done)), (by first | (simp [*]; done) | (go_simp; done) | (go_simp; simp [*]; done)), (by first | (simp [*]; done) | (go_simp; done) | (go_simp; simp [*]; done)), (by first | (simp [*]; done) | (go_simp; done) | (go_simp; simp [*]; done)), (by first | (simp [*]; done) | (go_simp; done) | (go_simp; simp [*]; done)), (by first | (simp [*]; done) | (go_simp; done) | (go_simp; simp [*]; done)), (by first | (simp [*]; done) | (go_simp; done) | (go_simp; simp [*]; done)), (by first | (simp [*]; done) | (go_simp; done) | (go_simp; simp [*]; done)), (by first | (simp [*]; done) | (go_simp; done) | (go_simp; simp [*]; done)), (by first | (simp [*]; done) | (go_simp; done) | (go_simp; simp [*]; done)), fun g hg => set_other hg _, (below_drewN Hbw.out _).setCell hg0w _, by simpa using vl⟩ ?_
  rintro V ⟨s0, s1, s2, s3, t0, t1, t2, f0, f1, f2, hVo, hVb, hV1⟩
  have HVo := Lib.hid hVo
  have HVb := Lib.hid hVb
  clear hVo hVb u0 u1 u2 ul v0 v1 v2 vl uf0 vf0 vf1 vf2 r0 r1 rl
  refine wp_region_held_drew (S := fun w' => w'.cell? ⟨g0, 0, none⟩ = some (.slice A2 n2 c2) ∧ w'.cell? ⟨g0, 1, none⟩ = some (.slice B m d) ∧ w'.cell? ⟨g0, 2, none⟩ = some (.int .i64 r) ∧ w'.cell? ⟨bl, 1, none⟩ = some (.slice B2 m2 d2)) (by kernel_rfl) ?gs ?gr
  case gs => simp [*]
  case gr =>
   intro hHeld
   have hbV : Below w.heap.size w V.drew := HVb.out.drew
   have hoV : ∀ g, g ≠ g0 → V.drew.heap[g]? = Z.heap[g]? := HVo.out
   have t0' : V.drew.cell? ⟨g1, 0, none⟩ = some (.slice none 0 0) := t0
   have t1' : V.drew.cell? ⟨g1, 1, none⟩ = some (.slice none 0 0) := t1
   have t2' : V.drew.cell? ⟨g1, 2, none⟩ = some (.int .i64 0) := t2
   have f0' : V.drew.frozen? ⟨g1, 0, none⟩ = false := f0
   have f1' : V.drew.frozen? ⟨g1, 1, none⟩ = false := f1
   have f2' : V.drew.frozen? ⟨g1, 2, none⟩ = false := f2
   have hV1' : g1 < V.drew.heap.size := hV1
   have HbV := Lib.hid hbV
   have HoV := Lib.hid hoV
   clear hbV hoV t0 t1 t2 f0 f1 f2 hV1 s0 s1 s2 s3 HVo HVb
   generalize V.drew = U at *
   refine stepH 0 hHeld ?_
   refine stepH 1 hHeld ?_
   refine stepH 2 hHeld ?_
   refine stepH 3 hHeld ?_
   refine stepH 4 hHeld ?_
   refine stepH 5 hHeld ?_
   refine oneH 6 (fun K hK => ?_)
   go_simp
   have hHeld8 : (fun w' : World => w'.cell? ⟨g0, 0, none⟩ = some (.slice A2 n2 c2) ∧ w'.cell? ⟨g0, 1, none⟩ = some (.slice B m d) ∧ w'.cell? ⟨g0, 2, none⟩ = some (.int .i64 r) ∧ w'.cell? ⟨bl, 1, none⟩ = some (.slice B2 m2 d2)) (((U.setCell ⟨g1, 0, none⟩ (.slice A2 n2 c2)).setCell ⟨g1, 1, none⟩ (.slice B m d)).setCell ⟨g1, 2, none⟩ (.int .i64 r)) := ⟨(by first | (simp [*]; done) | (go_simp; done) | (go_simp; simp [*]; done)), (by first | (simp [*]; done) | (go_simp; done) | (go_simp; simp [*]; done)), (by first | (simp [*]; done) | (go_simp; done) | (go_simp; simp [*]; done)), (by first | (simp [*]; done) | (go_simp; done) | (go_simp; simp [*]; done))⟩
   refine hK _ _ hHeld8 ?_
   clear hK K hHeld
   have hHeld := hHeld8
   clear hHeld8
   try simp only [Act.put, sA, sZ, sS]
   refine stepH 7 hHeld ?_
   refine stepH 8 hHeld ?_
   refine stepH 9 hHeld ?_
   refine wpAnyH_done (by kernel_rfl) ?_ _
   have hbF : Below w.heap.size w (((U.setCell ⟨g1, 0, none⟩ (.slice A2 n2 c2)).setCell ⟨g1, 1, none⟩ (.slice B m d)).setCell ⟨g1, 2, none⟩ (.int .i64 r)) := ((HbV.out.setCell hg1w _).setCell hg1w _).setCell hg1w _
   have hoF : ∀ g, g ≠ g0 → g ≠ g1 → (((U.setCell ⟨g1, 0, none⟩ (.slice A2 n2 c2)).setCell ⟨g1, 1, none⟩ (.slice B m d)).setCell ⟨g1, 2, none⟩ (.int .i64 r)).heap[g]? = Z.heap[g]? := fun g h1 h2 => (set_other h2 _).trans ((set_other h2 _).trans ((set_other h2 _).trans (HoV.out g h1)))
   have hcF := own0_at P3.out (fun hc a ha => hoF _ (Nc0.out hc a ha) (Nc1.out hc a ha))
   have hiF := own0_at P4.out (fun hc a ha => hoF _ (Ni0.out hc a ha) (Ni1.out hc a ha))
   have HIC := Lib.hid (Ly.isC hcF Wfc.out)
   have HII := Lib.hid (Ly.isI hiF Wfi.out)
   have HFr := Lib.hid (fun (h0 : m2 ≠ 0) a ha => Nat.le_trans hwB (own0_low hiF h0 a ha))
   have HbF := Lib.hid hbF
   have w0 : (((U.setCell ⟨g1, 0, none⟩ (.slice A2 n2 c2)).setCell ⟨g1, 1, none⟩ (.slice B m d)).setCell ⟨g1, 2, none⟩ (.int .i64 r)).cell? ⟨g1, 0, none⟩ = some (.slice A2 n2 c2) := (by first | (simp [*]; done) | (go_simp; done) | (go_simp; simp [*]; done))
   have w1 : (((U.setCell ⟨g1, 0, none⟩ (.slice A2 n2 c2)).setCell ⟨g1, 1, none⟩ (.slice B m d)).setCell ⟨g1, 2, none⟩ (.int .i64 r)).cell? ⟨g1, 1, none⟩ = some (.slice B m d) := (by first | (simp [*]; done) | (go_simp; done) | (go_simp; simp [*]; done))
   have w2 : (((U.setCell ⟨g1, 0, none⟩ (.slice A2 n2 c2)).setCell ⟨g1, 1, none⟩ (.slice B m d)).setCell ⟨g1, 2, none⟩ (.int .i64 r)).cell? ⟨g1, 2, none⟩ = some (.int .i64 r) := (by first | (simp [*]; done) | (go_simp; done) | (go_simp; simp [*]; done))
   clear hbF hoF hcF hiF hHeld
   generalize (((U.setCell ⟨g1, 0, none⟩ (.slice A2 n2 c2)).setCell ⟨g1, 1, none⟩ (.slice B m d)).setCell ⟨g1, 2, none⟩ (.int .i64 r)) = F at *
   go_wp2
   refine bodyPost_ret (v := .tuple #[.agg #[.slice A2 n2 c2, .slice B m d, .int .i64 r], .int .i64 (n : Int), .slice B2 m2 d2, .int .i64 0]) (by simp [results, Tryd.results40, go_sem, *]) rfl ?_
   unfold RetPut
   rw [HPL.out]
   rw [if_pos (show ((L.length : Nat) : Int) ≤ r from Hfit.out)]
   exact ⟨A2, n2, c2, B2, m2, d2, by rw [hnl], HIC.out, HII.out, HbF.out, HFr.out⟩
 ·have hd : decide (r < (n2 : Int)) = true := by simp; omega
  have Hfit : Hid (¬ ((L.length : Nat) : Int) ≤ r) := Lib.hid (by rw [HlenL.out]; exact hfit)
  clear hfit
  go_upto_region 8 with fail
  go_quiet (fail)
  go_wp2
  refine bodyPost_ret (v := .tuple #[.agg #[.slice A n c, .slice B m d, .int .i64 r], .int .i64 0, .slice none 0 0, .int .i64 80]) (by simp [results, Tryd.results40, go_sem, *]) rfl ?_
  unfold RetPut
  rw [HPL.out]
  rw [if_neg (by have h9 := Hfit.out; show ¬ ((L.length : Nat) : Int) ≤ r; omega)]
  exact ⟨rfl, ((((below_drewN Hbw.out _).setCell hg1w _).setCell hg1w _).setCell hg1w _)⟩
end Go.Proofs.YtgipiplklaeplaaDoor
