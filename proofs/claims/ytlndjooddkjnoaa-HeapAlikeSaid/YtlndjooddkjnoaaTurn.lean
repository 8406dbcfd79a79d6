/- The walks that turn a term's variables into others. -/
import Derived.Test.YtlndjooddkjnoaaVars
import Derived.Test.YtlndjooddkjnoaaParts
set_option linter.unusedVariables false
set_option linter.unusedSimpArgs false
namespace Go.Proofs.Ytlndjooddkjnoaa
open Go.RowKit

theorem infoC : (Try.prog.info? 54).map (fun i => (i.zero, i.size, i.bytes)) = some (some (.agg #[.int .i64 0, .string ⟨#[]⟩, .int .i64 0]), 3, 32) := by kernel_rfl
/-- a row of cells that the call owns -/
def RetOwn (w : World) (cs : List C) (e : Ending) (w' : World) : Prop := ∃ A cap, e = .returned (.slice A cs.length cap) ∧ w'.ownsRow w.heap.size 54 3 (.slice A cs.length cap) cs.length (flatC cs) ∧ Below w.heap.size w w'

theorem flatC_set (l : List C) (k : Nat) (x : C) (v : Int) (h : l[k]? = some x) : (flatC l).set (k * 3 + 2) (.int .i64 v) = flatC (l.set k { x with n := v }) := by
  induction l generalizing k with
  | nil => simp at h
  | cons d l ih =>
    cases k with
    | zero => simp at h; subst h; simp [flatC, C.flat]
    | succ k =>
      have := ih k (by simpa using h)
      rw [Nat.succ_mul]
      simp [flatC, C.flat] at this ⊢
      exact this
theorem turn_step (f : Int → Int) {t : List C} {k : Nat} {x : C} (hx : t[k]? = some x) (hk : x.kind = 1) :
    (flatC (turnF f (t.take k) ++ t.drop k)).set (k * 3 + 2) (.int .i64 (f x.n)) = flatC (turnF f (t.take (k + 1)) ++ t.drop (k + 1)) := by
  obtain ⟨hl, he⟩ := List.getElem?_eq_some_iff.1 hx
  have hlen : (turnF f (t.take k)).length = k := by simp [turnF]; omega
  rw [flatC_set _ k x]
  · congr 1
    rw [List.set_append_right _ _ (by omega), hlen, Nat.sub_self, drop_get hx, List.take_succ_eq_append_getElem hl, he]
    simp [turnF, hk]
  · rw [List.getElem?_append_right (by omega), hlen, Nat.sub_self, drop_get hx]
    rfl
theorem turn_keep (f : Int → Int) {t : List C} {k : Nat} {x : C} (hx : t[k]? = some x) (hk : x.kind ≠ 1) :
    turnF f (t.take k) ++ t.drop k = turnF f (t.take (k + 1)) ++ t.drop (k + 1) := by
  obtain ⟨hl, he⟩ := List.getElem?_eq_some_iff.1 hx
  rw [drop_get hx, List.take_succ_eq_append_getElem hl, he]
  simp [turnF, hk]

theorem turn_wf {f : Int → Int} (hf : ∀ x, i64 (f x)) {t : List C} (h : ∀ c ∈ t, c.wf) : ∀ c ∈ turnF f t, c.wf := by
  intro c hc
  obtain ⟨d, hd, rfl⟩ := List.mem_map.1 hc
  have := h d hd
  split
  · exact ⟨this.kind, hf _, this.name⟩
  · exact this
theorem wrap64_i64 (n : Int) : i64 (wrap64 n) := by unfold i64 wrap64; omega
theorem place_i64 (ns : List Int) (x : Int) (h : ns.length ≤ 100000) : i64 (placeI ns x) := by
  have := idxF_le (fun y => y == x) ns 0
  unfold i64 placeI
  omega





theorem IsC.nil0 (w : World) : IsC w none 0 0 [] := IsC.nil w none 0 (by simp [maxLen])
theorem shiftF_yes {t : List C} {v : Int} (h : rightB (turnF (fun n : Int => wrap64 (n + v)) t) = true) : shiftF t v = turnF (fun n : Int => wrap64 (n + v)) t := by simp [shiftF, h]
theorem shiftF_no {t : List C} {v : Int} (h : rightB (turnF (fun n : Int => wrap64 (n + v)) t) = false) : shiftF t v = [] := by simp [shiftF, h]


theorem varsA_len : ∀ (cs : List C) (acc : List Int), (varsA acc cs).length ≤ acc.length + cs.length
  | [], acc => by simp [varsA]
  | c :: cs, acc => by
    rw [varsA_cons]
    split
    · have := varsA_len cs (acc ++ [c.n]); simp at this ⊢; omega
    · have := varsA_len cs acc; simp; omega
theorem varsF_len (t : List C) : (varsF t).length ≤ t.length := by have := varsA_len t []; simpa [varsF] using this



set_option maxHeartbeats 800000 in
theorem rNumber_any (A : Option Addr) (n cap : Nat) (t : List C) (w : World) (h : IsC w A n cap t) (hn : n ≤ 100000) :
    Calls Try.prog 76 #[.slice A n cap] w (RetC w (numberF t)) := by
  have hl := h.len
  have Hl := Lib.hid hl
  clear hl
  have hvl := varsF_len t
  rw [h.len] at hvl
  go_enter Try.func76, Try.ntmps76
  go_wp2_with (first
    | (go_at_call 33; go_must (refine (rVars_any A n cap t _ h hn).mono ?_); rintro e w1 ⟨A1, n1, c1, rfl, hv1, hbv⟩; have hn1 : n1 ≤ 100000 := by rw [← hv1.len]; omega)
    | (at_builtin; go_must (refine wpList_append_sl rfl (.tmp 8) (.tmp 9) 26 rfl w1.heap.size 54 Try.underlying26 infoC rfl (by omega) rfl (World.ownsRow_lit _ #[] 0 (Nat.le_refl _) (by simp [maxLen]) rfl) rfl (h.sl.below (by exact hbv.alloc hbv.size _)) (oneC t) (by omega) (by omega) (by simp) ?_); intro A0 cap0 w0 hown0 hb0 _ _; replace hown0 : w0.ownsRow w1.heap.size 54 3 (.slice A0 n cap0) n (flatC t) := by simpa using hown0))
  have hb0' : Below w1.heap.size w1 w0 := Below.trans ((Below.refl _ _).alloc (Nat.le_refl _) _) hb0
  go_loopw [5] (fun i wr => ∃ (k : Nat), k ≤ n ∧ i = .int .i64 k ∧ wr.ownsRow w1.heap.size 54 3 (.slice A0 n cap0) n (flatC (turnF (placeI (varsF t)) (t.take k) ++ t.drop k)) ∧ Below w1.heap.size w1 wr) (fun i _ => n - (intOf i).toNat)
  case atStart => exact ⟨0, Nat.zero_le _, rfl, by simpa [turnF] using hown0, hb0'⟩
  case round =>
    obtain ⟨k, hk, rfl, hown, hb⟩ := hrel
    by_cases hlt : k < n
    · obtain ⟨x, hxk⟩ := h.get hlt
      have hwf := h.wf x (List.mem_of_getElem? hxk)
      obtain ⟨gg, rfl⟩ : ∃ gg, A0 = some ⟨gg, 0, none⟩ := by
        obtain ⟨g, cap', hv, _⟩ := hown.form (by omega)
        injection hv with hv
        exact ⟨g, hv⟩
      have hxk' : (turnF (placeI (varsF t)) (t.take k) ++ t.drop k)[k]? = some x := by
        rw [List.getElem?_append_right (by simp [turnF]; omega)]
        have := Hl.out
        simp [turnF, hxk, show min k t.length = k by omega]
      obtain ⟨f0, f1, f2⟩ := flatC_get _ _ _ hxk'
      have hkl : k * 3 + 2 < n * 3 := by omega
      have h0 := (hown.cellAt (k * 3) (by omega)).trans f0
      have h1 := (hown.cellAt (k * 3 + 1) (by omega)).trans f1
      have h2 := (hown.cellAt (k * 3 + 2) (by omega)).trans f2
      have hz0 := hown.frozenAt (k * 3 + 2)
      have hgl := (hown.lt gg rfl)
      obtain ⟨hg1, hg2⟩ := hgl
      have hset : x.kind = 1 → (flatC (turnF (placeI (varsF t)) (t.take k) ++ t.drop k)).set (k * 3 + 2) (.int .i64 ((placeI (varsF t)) x.n)) = flatC (turnF (placeI (varsF t)) (t.take (k + 1)) ++ t.drop (k + 1)) := fun hk1 => turn_step (placeI (varsF t)) hxk hk1
      have hkeep : x.kind ≠ 1 → turnF (placeI (varsF t)) (t.take k) ++ t.drop k = turnF (placeI (varsF t)) (t.take (k + 1)) ++ t.drop (k + 1) := fun hk1 => turn_keep (placeI (varsF t)) hxk hk1
      have Hset := Lib.hid hset
      have Hkeep := Lib.hid hkeep
      clear hset hkeep hxk hxk' f0 f1 f2
      obtain ⟨hc, hf⟩ := bcell hb
      by_cases hk1 : x.kind = 1
      · have hbk : (x.kind == 1) = true := by simp [hk1]
        have Hk1 := Lib.hid hk1
        clear hk1
        have hvr : IsI wr A1 n1 c1 (varsF t) := hv1.below hb
        go_wp2_with (first | (go_at_call 90; go_must (refine (Place_any A1 n1 c1 (varsF t) x.n _ hvr hn1).mono ?_); rintro e w2 ⟨rfl, rfl⟩))
        go_roundw
        case rel =>
          refine ⟨k + 1, by omega, by go_num, ?_, ?_⟩
          · rw [← Hset.out Hk1.out]
            exact (hown.stored (k * 3 + 2) _).1
          · exact Below.setCell (p := ⟨gg, k * 3 + 2, none⟩) hb hg1 _
          
        case measure => simp [intOf]; omega
      · have hbk : (x.kind == 1) = false := by simp [hk1]
        have Hk1 := Lib.hid hk1
        clear hk1
        go_wp2
        go_roundw
        case rel => exact ⟨k + 1, by omega, by go_num, by rw [← Hkeep.out Hk1.out]; exact hown, hb⟩
        case measure => simp [intOf]; omega
    · have hkn : k = n := by omega
      subst hkn
      have hfin : turnF (placeI (varsF t)) (t.take k) ++ t.drop k = turnF (placeI (varsF t)) t := by rw [drop_end Hl.out (by omega), List.take_of_length_le (by rw [Hl.out]; exact Nat.le_refl _)]; simp
      rw [hfin] at hown
      have hres : IsC wr A0 k cap0 (turnF (placeI (varsF t)) t) := ⟨Sl.own hown (by omega), turn_wf (fun n => place_i64 (varsF t) n (by omega)) h.wf⟩
      clear hfin
      go_wp2
      go_ret
      exact ⟨_, _, _, rfl, hres, hbv.trans (hb.mono hbv.size)⟩
end Go.Proofs.Ytlndjooddkjnoaa
