/- The walks that turn a term's variables into others. -/
import Derived.Test.YtnhfnpjfahmmpaaVars
import Derived.Test.YtnhfnpjfahmmpaaParts
namespace Go.Proofs.Ytnhfnpjfahmmpaa
open Go.RowKit

theorem infoC : (Try.prog.info? 40).map (fun i => (i.zero, i.size, i.bytes)) = some (some (.agg #[.int .i64 0, .string ⟨#[]⟩, .int .i64 0]), 3, 32) := by kernel_rfl
/-- a row of cells that the call owns -/
def RetOwn (w : World) (cs : List C) (e : Ending) (w' : World) : Prop := ∃ A cap, e = .returned (.slice A cs.length cap) ∧ w'.ownsRow w.heap.size 40 3 (.slice A cs.length cap) cs.length (flatC cs) ∧ Below w.heap.size w w'

theorem flatC_set (l : List C) (k : Nat) (x : C) (v : Int) (h : l[k]? = some x) : (flatC l).set (k * 3 + 2) (.int .i64 v) = flatC (l.set k { x with n := v }) := by
  induction l generalizing k with
  | nil => simp at h
  | cons d l ih =>
    cases k with
    | zero => simp at h; subst h; simp [flatC, C.flat]
    | succ k =>
      have := ih k (by simpa using h)
      rw [Nat.succ_mul]
      simp [flatC, C.flat] at this ⊢
      exact this
theorem turn_step (f : Int → Int) {t : List C} {k : Nat} {x : C} (hx : t[k]? = some x) (hk : x.kind = 1) :
    (flatC (turnF f (t.take k) ++ t.drop k)).set (k * 3 + 2) (.int .i64 (f x.n)) = flatC (turnF f (t.take (k + 1)) ++ t.drop (k + 1)) := by
  obtain ⟨hl, he⟩ := List.getElem?_eq_some_iff.1 hx
  have hlen : (turnF f (t.take k)).length = k := by simp [turnF]; omega
  rw [flatC_set _ k x]
  · congr 1
    rw [List.set_append_right _ _ (by omega), hlen, Nat.sub_self, drop_get hx, List.take_succ_eq_append_getElem hl, he]
    simp [turnF, hk]
  · rw [List.getElem?_append_right (by omega), hlen, Nat.sub_self, drop_get hx]
    rfl
theorem turn_keep (f : Int → Int) {t : List C} {k : Nat} {x : C} (hx : t[k]? = some x) (hk : x.kind ≠ 1) :
    turnF f (t.take k) ++ t.drop k = turnF f (t.take (k + 1)) ++ t.drop (k + 1) := by
  obtain ⟨hl, he⟩ := List.getElem?_eq_some_iff.1 hx
  rw [drop_get hx, List.take_succ_eq_append_getElem hl, he]
  simp [turnF, hk]

theorem turn_wf {f : Int → Int} (hf : ∀ x, i64 (f x)) {t : List C} (h : ∀ c ∈ t, c.wf) : ∀ c ∈ turnF f t, c.wf := by
  intro c hc
  obtain ⟨d, hd, rfl⟩ := List.mem_map.1 hc
  have := h d hd
  split
  · exact ⟨this.kind, hf _, this.name⟩
  · exact this
theorem wrap64_i64 (n : Int) : i64 (wrap64 n) := by unfold i64 wrap64; omega
theorem place_i64 (ns : List Int) (x : Int) (h : ns.length ≤ 100000) : i64 (placeI ns x) := by
  have := idxF_le (fun y => y == x) ns 0
  unfold i64 placeI
  omega
set_option maxHeartbeats 400000 in
theorem clone_any (A : Option Addr) (n cap : Nat) (t : List C) (w : World) (h : IsC w A n cap t) (hn : n ≤ 100000) :
    Calls Try.prog 62 #[.slice A n cap] w fun e w' => ∃ A' cap', e = .returned (.slice A' n cap') ∧ w'.ownsRow w.heap.size 40 3 (.slice A' n cap') n (flatC t) ∧ Below w.heap.size w w' := by
  cases A with
  | none =>
    have hnil : ∀ w : World, (binOp .eql 22 (.slice none n cap) (.slice none 0 0)).run Try.prog w = .ok (.bool true) w := fun w => Lib.run_eql_slice_nil w 22 40 none n cap 0 0 Try.underlying22
    have h0 : n = 0 := by
      rcases Nat.eq_zero_or_pos n with h0 | h0
      · exact h0
      · obtain ⟨b, off, hA, _⟩ := h.sl.cells h0
        cases hA
    subst h0
    have ht : t = [] := List.eq_nil_of_length_eq_zero h.len
    subst ht
    go_enter Try.func62, Try.ntmps62
    go_wp2
    go_ret
    exact ⟨_, _, rfl, World.ownsRow_nil _ _ _ _, Below.refl _ _⟩
  | some ad =>
    have hnil : ∀ w : World, (binOp .eql 22 (.slice (some ad) n cap) (.slice none 0 0)).run Try.prog w = .ok (.bool false) w := fun w => Lib.run_eql_slice_nil w 22 40 (some ad) n cap 0 0 Try.underlying22
    go_enter Try.func62, Try.ntmps62
    go_wp2_with (first | (at_builtin; go_must (refine wpList_append_sl rfl (.tmp 5) (.tmp 6) 22 rfl w.heap.size 40 Try.underlying22 infoC rfl (by omega) rfl (World.ownsRow_lit w #[] 0 (Nat.le_refl _) (by simp [maxLen]) rfl) rfl (h.sl.below (by repeat (first | assumption | exact Below.refl _ _ | refine Below.drew ?_ | refine below_drewN ?_ _ | refine Below.alloc ?_ ?_ _ | refine Below.setCell ?_ ?_ _ | (apply Below.size; assumption) | (simp; done) | (simp; omega) | (have hz := hb.size; simp; omega) | (have hz := hb.size; omega) | omega))) (oneC t) (by omega) (by omega) (by simp) ?_); intro A' cap' w1 hown1 hb1 _ _))
    go_ret
    refine ⟨A', cap', by simp, by simpa using hown1, ?_⟩
    exact Below.trans (by repeat (first | assumption | exact Below.refl _ _ | refine Below.drew ?_ | refine below_drewN ?_ _ | refine Below.alloc ?_ ?_ _ | refine Below.setCell ?_ ?_ _ | (apply Below.size; assumption) | (simp; done) | (simp; omega) | (have hz := hb.size; simp; omega) | (have hz := hb.size; omega) | omega)) hb1

theorem shift1_any (x v : Int) (pb : Nat) (w : World) (hv : w.cell? ⟨pb, 0, none⟩ = some (.int .i64 v)) :
    Calls Try.prog 46 #[.int .i64 x, .pointer (some ⟨pb, 0, none⟩)] w fun e w' => e = .returned (.int .i64 (wrap64 (x + v))) ∧ w = w' := by
  go_enter Try.func46, Try.ntmps46
  go_wp2
  go_ret
  exact ⟨rfl, rfl⟩
theorem number1_any (x : Int) (A : Option Addr) (n cap : Nat) (ns : List Int) (pb : Nat) (w : World) (h : IsI w A n cap ns) (hn : n ≤ 100000) (hv : w.cell? ⟨pb, 0, none⟩ = some (.slice A n cap)) :
    Calls Try.prog 47 #[.int .i64 x, .pointer (some ⟨pb, 0, none⟩)] w fun e w' => e = .returned (.int .i64 (placeI ns x)) ∧ w = w' := by
  go_enter Try.func47, Try.ntmps47
  go_wp2_with (go_at_call 48; go_must (refine (indexI_any A n cap ns x _ h hn).mono ?_); rintro e w1 ⟨rfl, rfl⟩)
  go_ret
  exact ⟨rfl, rfl⟩

set_option maxHeartbeats 800000 in
theorem turn_shift (A : Option Addr) (n cap : Nat) (t : List C) (w : World) (h : IsC w A n cap t) (hn : n ≤ 100000) (pb : Nat) (hpb : pb < w.heap.size) (v : Int) (hv : w.cell? ⟨pb, 0, none⟩ = some (.int .i64 v)) :
    Calls Try.prog 45 #[.slice A n cap, .func (.func 46) #[] #[.pointer (some ⟨pb, 0, none⟩)]] w (RetC w (turnF (fun n : Int => wrap64 (n + v)) t)) := by
  have hl := h.len
  have Hl := Lib.hid hl
  clear hl
  go_enter Try.func45, Try.ntmps45
  go_wp2_with (first | (go_at_call 62; go_must (refine (clone_any A n cap t _ h hn).mono ?_); rintro e w0 ⟨A0, cap0, rfl, hown0, hb0⟩))
  go_loopw [12] (fun i wr => ∃ (k : Nat), k ≤ n ∧ i = .int .i64 k ∧ wr.ownsRow w.heap.size 40 3 (.slice A0 n cap0) n (flatC (turnF (fun n : Int => wrap64 (n + v)) (t.take k) ++ t.drop k)) ∧ Below w.heap.size w wr) (fun i _ => n - (intOf i).toNat)
  case atStart => exact ⟨0, Nat.zero_le _, rfl, by simpa [turnF] using hown0, hb0⟩
  case round =>
    obtain ⟨k, hk, rfl, hown, hb⟩ := hrel
    by_cases hlt : k < n
    · obtain ⟨x, hxk⟩ := h.get hlt
      have hwf := h.wf x (List.mem_of_getElem? hxk)
      obtain ⟨gg, rfl⟩ : ∃ gg, A0 = some ⟨gg, 0, none⟩ := by
        obtain ⟨g, cap', hv, _⟩ := hown.form (by omega)
        injection hv with hv
        exact ⟨g, hv⟩
      have hxk' : (turnF (fun n : Int => wrap64 (n + v)) (t.take k) ++ t.drop k)[k]? = some x := by
        rw [List.getElem?_append_right (by simp [turnF]; omega)]
        have := Hl.out
        simp [turnF, hxk, show min k t.length = k by omega]
      obtain ⟨f0, f1, f2⟩ := flatC_get _ _ _ hxk'
      have hkl : k * 3 + 2 < n * 3 := by omega
      have h0 := (hown.cellAt (k * 3) (by omega)).trans f0
      have h1 := (hown.cellAt (k * 3 + 1) (by omega)).trans f1
      have h2 := (hown.cellAt (k * 3 + 2) (by omega)).trans f2
      have hz0 := hown.frozenAt (k * 3 + 2)
      have hgl := (hown.lt gg rfl)
      obtain ⟨hg1, hg2⟩ := hgl
      have hset : x.kind = 1 → (flatC (turnF (fun n : Int => wrap64 (n + v)) (t.take k) ++ t.drop k)).set (k * 3 + 2) (.int .i64 ((fun n : Int => wrap64 (n + v)) x.n)) = flatC (turnF (fun n : Int => wrap64 (n + v)) (t.take (k + 1)) ++ t.drop (k + 1)) := fun hk1 => turn_step (fun n : Int => wrap64 (n + v)) hxk hk1
      have hkeep : x.kind ≠ 1 → turnF (fun n : Int => wrap64 (n + v)) (t.take k) ++ t.drop k = turnF (fun n : Int => wrap64 (n + v)) (t.take (k + 1)) ++ t.drop (k + 1) := fun hk1 => turn_keep (fun n : Int => wrap64 (n + v)) hxk hk1
      have Hset := Lib.hid hset
      have Hkeep := Lib.hid hkeep
      have hne : ¬ gg = wr.heap.size := by omega
      clear hset hkeep hxk hxk' f0 f1 f2
      obtain ⟨hc, hf⟩ := bcell hb
      by_cases hk1 : x.kind = 1
      · have hbk : (x.kind == 1) = true := by simp [hk1]
        have Hk1 := Lib.hid hk1
        clear hk1
        have hv' := (hc pb 0 hpb).trans hv
        have hvv : ∀ o, (wr.alloc o).cell? ⟨pb, 0, none⟩ = some (.int .i64 v) := fun o => (((Below.refl wr.heap.size wr).alloc (Nat.le_refl _) o).cell (p := ⟨pb, 0, none⟩) (by have := hb.size; simp; omega)).trans hv'
        go_wp2_with (first | (go_at_call 46; go_must (refine (shift1_any x.n v pb _ (hvv _)).mono ?_); rintro e w1 ⟨rfl, rfl⟩))
        go_roundw
        case rel =>
          refine ⟨k + 1, by omega, by go_num, ?_, ?_⟩
          · rw [← Hset.out Hk1.out]
            exact (hown.stored (k * 3 + 2) _).1.alloc _
          · exact Below.alloc (Below.setCell (p := ⟨gg, k * 3 + 2, none⟩) (by repeat (first | assumption | exact Below.refl _ _ | refine Below.drew ?_ | refine below_drewN ?_ _ | refine Below.alloc ?_ ?_ _ | refine Below.setCell ?_ ?_ _ | (apply Below.size; assumption) | (simp; done) | (simp; omega) | (have hz := hb.size; simp; omega) | (have hz := hb.size; omega) | omega)) hg1 _) (by have := hb.size; simp; omega) _
        case measure => simp [intOf]; omega
      · have hbk : (x.kind == 1) = false := by simp [hk1]
        have Hk1 := Lib.hid hk1
        clear hk1
        go_wp2
        go_roundw
        case rel => exact ⟨k + 1, by omega, by go_num, by rw [← Hkeep.out Hk1.out]; exact hown.alloc _, (by repeat (first | assumption | exact Below.refl _ _ | refine Below.drew ?_ | refine below_drewN ?_ _ | refine Below.alloc ?_ ?_ _ | refine Below.setCell ?_ ?_ _ | (apply Below.size; assumption) | (simp; done) | (simp; omega) | (have hz := hb.size; simp; omega) | (have hz := hb.size; omega) | omega))⟩
        case measure => simp [intOf]; omega
    · go_wp2
      go_ret
      have hkn : k = n := by omega
      subst hkn
      have hfin : turnF (fun n : Int => wrap64 (n + v)) (t.take k) ++ t.drop k = turnF (fun n : Int => wrap64 (n + v)) t := by rw [drop_end Hl.out (by omega), List.take_of_length_le (by rw [Hl.out]; exact Nat.le_refl _)]; simp
      rw [hfin] at hown
      exact ⟨_, _, _, rfl, ⟨Sl.own hown (by omega), turn_wf (fun n => wrap64_i64 _) h.wf⟩, hb⟩

set_option maxHeartbeats 800000 in
theorem turn_number (A : Option Addr) (n cap : Nat) (t : List C) (w : World) (h : IsC w A n cap t) (hn : n ≤ 100000) (pb : Nat) (hpb : pb < w.heap.size) (Ai : Option Addr) (ni ci : Nat) (ns : List Int) (hi : IsI w Ai ni ci ns) (hni : ni ≤ 100000) (hv : w.cell? ⟨pb, 0, none⟩ = some (.slice Ai ni ci)) :
    Calls Try.prog 45 #[.slice A n cap, .func (.func 47) #[] #[.pointer (some ⟨pb, 0, none⟩)]] w (RetC w (turnF (placeI ns) t)) := by
  have hl := h.len
  have Hl := Lib.hid hl
  clear hl
  go_enter Try.func45, Try.ntmps45
  go_wp2_with (first | (go_at_call 62; go_must (refine (clone_any A n cap t _ h hn).mono ?_); rintro e w0 ⟨A0, cap0, rfl, hown0, hb0⟩))
  go_loopw [12] (fun i wr => ∃ (k : Nat), k ≤ n ∧ i = .int .i64 k ∧ wr.ownsRow w.heap.size 40 3 (.slice A0 n cap0) n (flatC (turnF (placeI ns) (t.take k) ++ t.drop k)) ∧ Below w.heap.size w wr) (fun i _ => n - (intOf i).toNat)
  case atStart => exact ⟨0, Nat.zero_le _, rfl, by simpa [turnF] using hown0, hb0⟩
  case round =>
    obtain ⟨k, hk, rfl, hown, hb⟩ := hrel
    by_cases hlt : k < n
    · obtain ⟨x, hxk⟩ := h.get hlt
      have hwf := h.wf x (List.mem_of_getElem? hxk)
      obtain ⟨gg, rfl⟩ : ∃ gg, A0 = some ⟨gg, 0, none⟩ := by
        obtain ⟨g, cap', hv, _⟩ := hown.form (by omega)
        injection hv with hv
        exact ⟨g, hv⟩
      have hxk' : (turnF (placeI ns) (t.take k) ++ t.drop k)[k]? = some x := by
        rw [List.getElem?_append_right (by simp [turnF]; omega)]
        have := Hl.out
        simp [turnF, hxk, show min k t.length = k by omega]
      obtain ⟨f0, f1, f2⟩ := flatC_get _ _ _ hxk'
      have hkl : k * 3 + 2 < n * 3 := by omega
      have h0 := (hown.cellAt (k * 3) (by omega)).trans f0
      have h1 := (hown.cellAt (k * 3 + 1) (by omega)).trans f1
      have h2 := (hown.cellAt (k * 3 + 2) (by omega)).trans f2
      have hz0 := hown.frozenAt (k * 3 + 2)
      have hgl := (hown.lt gg rfl)
      obtain ⟨hg1, hg2⟩ := hgl
      have hset : x.kind = 1 → (flatC (turnF (placeI ns) (t.take k) ++ t.drop k)).set (k * 3 + 2) (.int .i64 ((placeI ns) x.n)) = flatC (turnF (placeI ns) (t.take (k + 1)) ++ t.drop (k + 1)) := fun hk1 => turn_step (placeI ns) hxk hk1
      have hkeep : x.kind ≠ 1 → turnF (placeI ns) (t.take k) ++ t.drop k = turnF (placeI ns) (t.take (k + 1)) ++ t.drop (k + 1) := fun hk1 => turn_keep (placeI ns) hxk hk1
      have Hset := Lib.hid hset
      have Hkeep := Lib.hid hkeep
      have hne : ¬ gg = wr.heap.size := by omega
      clear hset hkeep hxk hxk' f0 f1 f2
      obtain ⟨hc, hf⟩ := bcell hb
      by_cases hk1 : x.kind = 1
      · have hbk : (x.kind == 1) = true := by simp [hk1]
        have Hk1 := Lib.hid hk1
        clear hk1
        have hv' := (hc pb 0 hpb).trans hv
        have hvv : ∀ o, (wr.alloc o).cell? ⟨pb, 0, none⟩ = some (.slice Ai ni ci) := fun o => (((Below.refl wr.heap.size wr).alloc (Nat.le_refl _) o).cell (p := ⟨pb, 0, none⟩) (by have := hb.size; simp; omega)).trans hv'
        have hii : ∀ o, IsI (wr.alloc o) Ai ni ci ns := fun o => hi.below (hb.alloc hb.size o)
        go_wp2_with (first | (go_at_call 47; go_must (refine (number1_any x.n Ai ni ci ns pb _ (hii _) hni (hvv _)).mono ?_); rintro e w1 ⟨rfl, rfl⟩))
        go_roundw
        case rel =>
          refine ⟨k + 1, by omega, by go_num, ?_, ?_⟩
          · rw [← Hset.out Hk1.out]
            exact (hown.stored (k * 3 + 2) _).1.alloc _
          · exact Below.alloc (Below.setCell (p := ⟨gg, k * 3 + 2, none⟩) (by repeat (first | assumption | exact Below.refl _ _ | refine Below.drew ?_ | refine below_drewN ?_ _ | refine Below.alloc ?_ ?_ _ | refine Below.setCell ?_ ?_ _ | (apply Below.size; assumption) | (simp; done) | (simp; omega) | (have hz := hb.size; simp; omega) | (have hz := hb.size; omega) | omega)) hg1 _) (by have := hb.size; simp; omega) _
        case measure => simp [intOf]; omega
      · have hbk : (x.kind == 1) = false := by simp [hk1]
        have Hk1 := Lib.hid hk1
        clear hk1
        go_wp2
        go_roundw
        case rel => exact ⟨k + 1, by omega, by go_num, by rw [← Hkeep.out Hk1.out]; exact hown.alloc _, (by repeat (first | assumption | exact Below.refl _ _ | refine Below.drew ?_ | refine below_drewN ?_ _ | refine Below.alloc ?_ ?_ _ | refine Below.setCell ?_ ?_ _ | (apply Below.size; assumption) | (simp; done) | (simp; omega) | (have hz := hb.size; simp; omega) | (have hz := hb.size; omega) | omega))⟩
        case measure => simp [intOf]; omega
    · go_wp2
      go_ret
      have hkn : k = n := by omega
      subst hkn
      have hfin : turnF (placeI ns) (t.take k) ++ t.drop k = turnF (placeI ns) t := by rw [drop_end Hl.out (by omega), List.take_of_length_le (by rw [Hl.out]; exact Nat.le_refl _)]; simp
      rw [hfin] at hown
      exact ⟨_, _, _, rfl, ⟨Sl.own hown (by omega), turn_wf (fun n => place_i64 ns n (by rw [hi.len]; exact hni)) h.wf⟩, hb⟩

theorem IsC.nil0 (w : World) : IsC w none 0 0 [] := IsC.nil w none 0 (by simp [maxLen])
theorem shiftF_yes {t : List C} {v : Int} (h : rightB (turnF (fun n : Int => wrap64 (n + v)) t) = true) : shiftF t v = turnF (fun n : Int => wrap64 (n + v)) t := by simp [shiftF, h]
theorem shiftF_no {t : List C} {v : Int} (h : rightB (turnF (fun n : Int => wrap64 (n + v)) t) = false) : shiftF t v = [] := by simp [shiftF, h]

set_option maxHeartbeats 400000 in
theorem tShift_any (A : Option Addr) (n cap : Nat) (t : List C) (v : Int) (w : World) (h : IsC w A n cap t) (hn : n ≤ 100000) :
    Calls Try.prog 28 #[.slice A n cap, .int .i64 v] w (RetC w (shiftF t v)) := by
  have hmf : ∀ (fn : Fn) (first cap : Array Value) (w : World), (Instr.makeFunc fn first cap).run Try.prog w = .ok (.func fn first cap) w := fun _ _ _ _ => rfl
  cases hr : rightB (turnF (fun n : Int => wrap64 (n + v)) t)
  all_goals
    have Hr := Lib.hid hr
    clear hr
    go_enter Try.func28, Try.ntmps28
    go_wp2_with (first
      | (go_at_call 45; go_must (refine (turn_shift A n cap t _ (h.below (by repeat (first | assumption | exact Below.refl _ _ | refine Below.drew ?_ | refine below_drewN ?_ _ | refine Below.alloc ?_ ?_ _ | refine Below.setCell ?_ ?_ _ | (apply Below.size; assumption) | (simp; done) | (simp; omega) | (have hz := hb.size; simp; omega) | (have hz := hb.size; omega) | omega))) hn w.heap.size (by simp) v (by go_simp)).mono ?_); rintro e w1 ⟨A1, n1, c1, rfl, h1, hb⟩; replace hb := Below.trans (a := w) (B := w.heap.size) (by repeat (first | assumption | exact Below.refl _ _ | refine Below.drew ?_ | refine below_drewN ?_ _ | refine Below.alloc ?_ ?_ _ | refine Below.setCell ?_ ?_ _ | (apply Below.size; assumption) | (simp; done) | (simp; omega) | (have hz := hb.size; simp; omega) | (have hz := hb.size; omega) | omega)) (hb.mono (by first | exact Nat.le_refl _ | (simp; done) | (simp; omega))); have hn1 : n1 ≤ 100000 := by rw [← h1.len]; simp [turnF, h.len]; omega)
      | (go_at_call 14; go_must (refine (tRight_any A1 n1 c1 _ _ h1 hn1).mono ?_); rw [Hr.out]; rintro e w2 ⟨rfl, hb2⟩; replace hb := hb.trans (hb2.mono hb.size)))
    go_ret
  · rw [shiftF_no Hr.out]
    exact ⟨_, _, _, rfl, IsC.nil0 _, hb⟩
  · rw [shiftF_yes Hr.out]
    exact ⟨_, _, _, rfl, h1.below hb2, hb⟩

theorem varsA_len : ∀ (cs : List C) (acc : List Int), (varsA acc cs).length ≤ acc.length + cs.length
  | [], acc => by simp [varsA]
  | c :: cs, acc => by
    rw [varsA_cons]
    split
    · have := varsA_len cs (acc ++ [c.n]); simp at this ⊢; omega
    · have := varsA_len cs acc; simp; omega
theorem varsF_len (t : List C) : (varsF t).length ≤ t.length := by have := varsA_len t []; simpa [varsF] using this

set_option maxHeartbeats 400000 in
theorem tNumber_any (A : Option Addr) (n cap : Nat) (t : List C) (w : World) (h : IsC w A n cap t) (hn : n ≤ 100000) :
    Calls Try.prog 30 #[.slice A n cap] w (RetC w (numberF t)) := by
  have hmf : ∀ (fn : Fn) (first cap : Array Value) (w : World), (Instr.makeFunc fn first cap).run Try.prog w = .ok (.func fn first cap) w := fun _ _ _ _ => rfl
  have hvl := varsF_len t
  rw [h.len] at hvl
  go_enter Try.func30, Try.ntmps30
  go_wp2_with (first
    | (go_at_call 21; go_must (refine (tVars_any A n cap t _ h hn).mono ?_); rintro e w1 ⟨A1, n1, c1, rfl, h1, hb⟩; have hn1 : n1 ≤ 100000 := by rw [← h1.len]; omega)
    | (go_at_call 45; go_must (refine (turn_number A n cap t _ (h.below (by repeat (first | assumption | exact Below.refl _ _ | refine Below.drew ?_ | refine below_drewN ?_ _ | refine Below.alloc ?_ ?_ _ | refine Below.setCell ?_ ?_ _ | (apply Below.size; assumption) | (simp; done) | (simp; omega) | (have hz := hb.size; simp; omega) | (have hz := hb.size; omega) | omega))) hn w1.heap.size (by simp) A1 n1 c1 (varsF t) (h1.below (by exact (Below.refl _ _).alloc (Nat.le_refl _) _)) hn1 (by go_simp)).mono ?_); rintro e w2 ⟨A2, n2, c2, rfl, h2, hb2⟩))
  have hb3 : Below w.heap.size w w2 := Below.trans (hb.alloc hb.size _) (hb2.mono (by have := hb.size; simp; omega))
  go_ret
  exact ⟨_, _, _, rfl, h2, hb3⟩

set_option maxHeartbeats 800000 in
theorem rShift_any (A : Option Addr) (n cap : Nat) (t : List C) (v : Int) (w : World) (h : IsC w A n cap t) (hn : n ≤ 100000) :
    Calls Try.prog 29 #[.slice A n cap, .int .i64 v] w (RetC w (shiftF t v)) := by
  have hl := h.len
  have Hl := Lib.hid hl
  clear hl
  go_enter Try.func29, Try.ntmps29
  go_wp2_with (first
    | (at_builtin; go_must (refine wpList_append_sl rfl (.tmp 7) (.tmp 8) 22 rfl w.heap.size 40 Try.underlying22 infoC rfl (by omega) rfl (World.ownsRow_lit _ #[] 0 (Nat.le_refl _) (by simp [maxLen]) rfl) rfl (h.sl.below (by repeat (first | assumption | exact Below.refl _ _ | refine Below.drew ?_ | refine below_drewN ?_ _ | refine Below.alloc ?_ ?_ _ | refine Below.setCell ?_ ?_ _ | (apply Below.size; assumption) | (simp; done) | (simp; omega) | (have hz := hb.size; simp; omega) | (have hz := hb.size; omega) | omega))) (oneC t) (by omega) (by omega) (by repeat (first | assumption | exact Below.refl _ _ | refine Below.drew ?_ | refine below_drewN ?_ _ | refine Below.alloc ?_ ?_ _ | refine Below.setCell ?_ ?_ _ | (apply Below.size; assumption) | (simp; done) | (simp; omega) | (have hz := hb.size; simp; omega) | (have hz := hb.size; omega) | omega)) ?_); intro A0 cap0 w0 hown0 hb0 _ _; replace hown0 : w0.ownsRow w.heap.size 40 3 (.slice A0 n cap0) n (flatC t) := by simpa using hown0))
  have hb0' : Below w.heap.size w w0 := Below.trans (by repeat (first | assumption | exact Below.refl _ _ | refine Below.drew ?_ | refine below_drewN ?_ _ | refine Below.alloc ?_ ?_ _ | refine Below.setCell ?_ ?_ _ | (apply Below.size; assumption) | (simp; done) | (simp; omega) | (have hz := hb.size; simp; omega) | (have hz := hb.size; omega) | omega)) hb0
  go_loopw [6] (fun i wr => ∃ (k : Nat), k ≤ n ∧ i = .int .i64 k ∧ wr.ownsRow w.heap.size 40 3 (.slice A0 n cap0) n (flatC (turnF (fun n : Int => wrap64 (n + v)) (t.take k) ++ t.drop k)) ∧ Below w.heap.size w wr) (fun i _ => n - (intOf i).toNat)
  case atStart => exact ⟨0, Nat.zero_le _, rfl, by simpa [turnF] using hown0, hb0'⟩
  case round =>
    obtain ⟨k, hk, rfl, hown, hb⟩ := hrel
    by_cases hlt : k < n
    · obtain ⟨x, hxk⟩ := h.get hlt
      have hwf := h.wf x (List.mem_of_getElem? hxk)
      obtain ⟨gg, rfl⟩ : ∃ gg, A0 = some ⟨gg, 0, none⟩ := by
        obtain ⟨g, cap', hv, _⟩ := hown.form (by omega)
        injection hv with hv
        exact ⟨g, hv⟩
      have hxk' : (turnF (fun n : Int => wrap64 (n + v)) (t.take k) ++ t.drop k)[k]? = some x := by
        rw [List.getElem?_append_right (by simp [turnF]; omega)]
        have := Hl.out
        simp [turnF, hxk, show min k t.length = k by omega]
      obtain ⟨f0, f1, f2⟩ := flatC_get _ _ _ hxk'
      have hkl : k * 3 + 2 < n * 3 := by omega
      have h0 := (hown.cellAt (k * 3) (by omega)).trans f0
      have h1 := (hown.cellAt (k * 3 + 1) (by omega)).trans f1
      have h2 := (hown.cellAt (k * 3 + 2) (by omega)).trans f2
      have hz0 := hown.frozenAt (k * 3 + 2)
      have hgl := (hown.lt gg rfl)
      obtain ⟨hg1, hg2⟩ := hgl
      have hset : x.kind = 1 → (flatC (turnF (fun n : Int => wrap64 (n + v)) (t.take k) ++ t.drop k)).set (k * 3 + 2) (.int .i64 ((fun n : Int => wrap64 (n + v)) x.n)) = flatC (turnF (fun n : Int => wrap64 (n + v)) (t.take (k + 1)) ++ t.drop (k + 1)) := fun hk1 => turn_step (fun n : Int => wrap64 (n + v)) hxk hk1
      have hkeep : x.kind ≠ 1 → turnF (fun n : Int => wrap64 (n + v)) (t.take k) ++ t.drop k = turnF (fun n : Int => wrap64 (n + v)) (t.take (k + 1)) ++ t.drop (k + 1) := fun hk1 => turn_keep (fun n : Int => wrap64 (n + v)) hxk hk1
      have Hset := Lib.hid hset
      have Hkeep := Lib.hid hkeep
      clear hset hkeep hxk hxk' f0 f1 f2
      obtain ⟨hc, hf⟩ := bcell hb
      by_cases hk1 : x.kind = 1
      · have hbk : (x.kind == 1) = true := by simp [hk1]
        have Hk1 := Lib.hid hk1
        clear hk1
        go_wp2
        go_roundw
        case rel =>
          refine ⟨k + 1, by omega, by go_num, ?_, ?_⟩
          · rw [← Hset.out Hk1.out]
            exact (hown.stored (k * 3 + 2) _).1
          · exact Below.setCell (p := ⟨gg, k * 3 + 2, none⟩) hb hg1 _
          
        case measure => simp [intOf]; omega
      · have hbk : (x.kind == 1) = false := by simp [hk1]
        have Hk1 := Lib.hid hk1
        clear hk1
        go_wp2
        go_roundw
        case rel => exact ⟨k + 1, by omega, by go_num, by rw [← Hkeep.out Hk1.out]; exact hown, hb⟩
        case measure => simp [intOf]; omega
    · have hkn : k = n := by omega
      subst hkn
      have hfin : turnF (fun n : Int => wrap64 (n + v)) (t.take k) ++ t.drop k = turnF (fun n : Int => wrap64 (n + v)) t := by rw [drop_end Hl.out (by omega), List.take_of_length_le (by rw [Hl.out]; exact Nat.le_refl _)]; simp
      rw [hfin] at hown
      have hres : IsC wr A0 k cap0 (turnF (fun n : Int => wrap64 (n + v)) t) := ⟨Sl.own hown (by omega), turn_wf (fun n => wrap64_i64 _) h.wf⟩
      clear hfin
      cases hr : rightB (turnF (fun n : Int => wrap64 (n + v)) t)
      all_goals
        have Hr := Lib.hid hr
        clear hr
        go_wp2_with (first
          | (go_at_call 15; go_must (refine (rRight_any A0 k cap0 _ _ hres hn).mono ?_); rw [Hr.out]; rintro e w2 ⟨rfl, hb2⟩; replace hb := hb.trans (hb2.mono hb.size)))
        go_ret
      · rw [shiftF_no Hr.out]
        exact ⟨_, _, _, rfl, IsC.nil0 _, hb⟩
      · rw [shiftF_yes Hr.out]
        exact ⟨_, _, _, rfl, hres.below hb2, hb⟩
set_option maxHeartbeats 800000 in
theorem rNumber_any (A : Option Addr) (n cap : Nat) (t : List C) (w : World) (h : IsC w A n cap t) (hn : n ≤ 100000) :
    Calls Try.prog 31 #[.slice A n cap] w (RetC w (numberF t)) := by
  have hl := h.len
  have Hl := Lib.hid hl
  clear hl
  have hvl := varsF_len t
  rw [h.len] at hvl
  go_enter Try.func31, Try.ntmps31
  go_wp2_with (first
    | (go_at_call 22; go_must (refine (rVars_any A n cap t _ h hn).mono ?_); rintro e w1 ⟨A1, n1, c1, rfl, hv1, hbv⟩; have hn1 : n1 ≤ 100000 := by rw [← hv1.len]; omega)
    | (at_builtin; go_must (refine wpList_append_sl rfl (.tmp 8) (.tmp 9) 22 rfl w1.heap.size 40 Try.underlying22 infoC rfl (by omega) rfl (World.ownsRow_lit _ #[] 0 (Nat.le_refl _) (by simp [maxLen]) rfl) rfl (h.sl.below (by exact hbv.alloc hbv.size _)) (oneC t) (by omega) (by omega) (by simp) ?_); intro A0 cap0 w0 hown0 hb0 _ _; replace hown0 : w0.ownsRow w1.heap.size 40 3 (.slice A0 n cap0) n (flatC t) := by simpa using hown0))
  have hb0' : Below w1.heap.size w1 w0 := Below.trans ((Below.refl _ _).alloc (Nat.le_refl _) _) hb0
  go_loopw [5] (fun i wr => ∃ (k : Nat), k ≤ n ∧ i = .int .i64 k ∧ wr.ownsRow w1.heap.size 40 3 (.slice A0 n cap0) n (flatC (turnF (placeI (varsF t)) (t.take k) ++ t.drop k)) ∧ Below w1.heap.size w1 wr) (fun i _ => n - (intOf i).toNat)
  case atStart => exact ⟨0, Nat.zero_le _, rfl, by simpa [turnF] using hown0, hb0'⟩
  case round =>
    obtain ⟨k, hk, rfl, hown, hb⟩ := hrel
    by_cases hlt : k < n
    · obtain ⟨x, hxk⟩ := h.get hlt
      have hwf := h.wf x (List.mem_of_getElem? hxk)
      obtain ⟨gg, rfl⟩ : ∃ gg, A0 = some ⟨gg, 0, none⟩ := by
        obtain ⟨g, cap', hv, _⟩ := hown.form (by omega)
        injection hv with hv
        exact ⟨g, hv⟩
      have hxk' : (turnF (placeI (varsF t)) (t.take k) ++ t.drop k)[k]? = some x := by
        rw [List.getElem?_append_right (by simp [turnF]; omega)]
        have := Hl.out
        simp [turnF, hxk, show min k t.length = k by omega]
      obtain ⟨f0, f1, f2⟩ := flatC_get _ _ _ hxk'
      have hkl : k * 3 + 2 < n * 3 := by omega
      have h0 := (hown.cellAt (k * 3) (by omega)).trans f0
      have h1 := (hown.cellAt (k * 3 + 1) (by omega)).trans f1
      have h2 := (hown.cellAt (k * 3 + 2) (by omega)).trans f2
      have hz0 := hown.frozenAt (k * 3 + 2)
      have hgl := (hown.lt gg rfl)
      obtain ⟨hg1, hg2⟩ := hgl
      have hset : x.kind = 1 → (flatC (turnF (placeI (varsF t)) (t.take k) ++ t.drop k)).set (k * 3 + 2) (.int .i64 ((placeI (varsF t)) x.n)) = flatC (turnF (placeI (varsF t)) (t.take (k + 1)) ++ t.drop (k + 1)) := fun hk1 => turn_step (placeI (varsF t)) hxk hk1
      have hkeep : x.kind ≠ 1 → turnF (placeI (varsF t)) (t.take k) ++ t.drop k = turnF (placeI (varsF t)) (t.take (k + 1)) ++ t.drop (k + 1) := fun hk1 => turn_keep (placeI (varsF t)) hxk hk1
      have Hset := Lib.hid hset
      have Hkeep := Lib.hid hkeep
      clear hset hkeep hxk hxk' f0 f1 f2
      obtain ⟨hc, hf⟩ := bcell hb
      by_cases hk1 : x.kind = 1
      · have hbk : (x.kind == 1) = true := by simp [hk1]
        have Hk1 := Lib.hid hk1
        clear hk1
        have hvr : IsI wr A1 n1 c1 (varsF t) := hv1.below hb
        go_wp2_with (first | (go_at_call 49; go_must (refine (Place_any A1 n1 c1 (varsF t) x.n _ hvr hn1).mono ?_); rintro e w2 ⟨rfl, rfl⟩))
        go_roundw
        case rel =>
          refine ⟨k + 1, by omega, by go_num, ?_, ?_⟩
          · rw [← Hset.out Hk1.out]
            exact (hown.stored (k * 3 + 2) _).1
          · exact Below.setCell (p := ⟨gg, k * 3 + 2, none⟩) hb hg1 _
          
        case measure => simp [intOf]; omega
      · have hbk : (x.kind == 1) = false := by simp [hk1]
        have Hk1 := Lib.hid hk1
        clear hk1
        go_wp2
        go_roundw
        case rel => exact ⟨k + 1, by omega, by go_num, by rw [← Hkeep.out Hk1.out]; exact hown, hb⟩
        case measure => simp [intOf]; omega
    · have hkn : k = n := by omega
      subst hkn
      have hfin : turnF (placeI (varsF t)) (t.take k) ++ t.drop k = turnF (placeI (varsF t)) t := by rw [drop_end Hl.out (by omega), List.take_of_length_le (by rw [Hl.out]; exact Nat.le_refl _)]; simp
      rw [hfin] at hown
      have hres : IsC wr A0 k cap0 (turnF (placeI (varsF t)) t) := ⟨Sl.own hown (by omega), turn_wf (fun n => place_i64 (varsF t) n (by omega)) h.wf⟩
      clear hfin
      go_wp2
      go_ret
      exact ⟨_, _, _, rfl, hres, hbv.trans (hb.mono hbv.size)⟩
end Go.Proofs.Ytnhfnpjfahmmpaa
