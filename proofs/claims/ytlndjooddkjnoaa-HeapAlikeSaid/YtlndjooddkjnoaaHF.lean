/- The walks of New, Mark and fits. -/
import Derived.StillTailTactics
import Derived.Test.YtlndjooddkjnoaaHE
set_option linter.unusedVariables false
set_option linter.unusedSimpArgs false
namespace Go.Proofs.Ytlndjooddkjnoaa
open Go.RowKit

def newF (x : Int) : Int := if 1 ≤ x ∧ x ≤ 4096 then x else 0
def RetVB (w : World) (v : Value) (e : Ending) (w' : World) : Prop := e = .returned v ∧ Below w.heap.size w w'
theorem hNew_any (x : Int) (w : World) (hx : i64 x) : Calls Try.prog 15 #[.int .i64 x] w (RetV w (.agg #[.slice none 0 0, .slice none 0 0, .int .i64 (newF x)])) := by
  by_cases h1 : x < 1
  · have hf : Hid (newF x = 0) := Lib.hid (by unfold newF; rw [if_neg (by omega)])
    go_enter Try.func15, Try.ntmps15
    go_wp2
    refine bodyPost_ret (v := .agg #[.slice none 0 0, .slice none 0 0, .int .i64 0]) (by simp [results, Try.results15, go_sem]) rfl ⟨by rw [hf.out], ?_⟩
    exact (by repeat (first | assumption | exact Below.refl _ _ | refine Below.drew ?_ | refine below_drewN ?_ _ | refine Below.alloc ?_ ?_ _ | refine Below.setCell ?_ ?_ _ | (apply Below.size; assumption) | (simp; done) | (simp; omega) | (have hz := hb.size; simp; omega) | (have hz := hb.size; omega) | omega))
  · by_cases h2 : x > 4096
    · have hf : Hid (newF x = 0) := Lib.hid (by unfold newF; rw [if_neg (by omega)])
      go_enter Try.func15, Try.ntmps15
      go_wp2
      refine bodyPost_ret (v := .agg #[.slice none 0 0, .slice none 0 0, .int .i64 0]) (by simp [results, Try.results15, go_sem]) rfl ⟨by rw [hf.out], ?_⟩
      exact (by repeat (first | assumption | exact Below.refl _ _ | refine Below.drew ?_ | refine below_drewN ?_ _ | refine Below.alloc ?_ ?_ _ | refine Below.setCell ?_ ?_ _ | (apply Below.size; assumption) | (simp; done) | (simp; omega) | (have hz := hb.size; simp; omega) | (have hz := hb.size; omega) | omega))
    · have hf : Hid (newF x = x) := Lib.hid (by unfold newF; rw [if_pos (by omega)])
      go_enter Try.func15, Try.ntmps15
      go_wp2
      refine bodyPost_ret (v := .agg #[.slice none 0 0, .slice none 0 0, .int .i64 x]) (by simp [results, Try.results15, go_sem]) rfl ⟨by rw [hf.out], ?_⟩
      exact (by repeat (first | assumption | exact Below.refl _ _ | refine Below.drew ?_ | refine below_drewN ?_ _ | refine Below.alloc ?_ ?_ _ | refine Below.setCell ?_ ?_ _ | (apply Below.size; assumption) | (simp; done) | (simp; omega) | (have hz := hb.size; simp; omega) | (have hz := hb.size; omega) | omega))
theorem qNew_any (x : Int) (w : World) (hx : i64 x) : Calls Try.prog 16 #[.int .i64 x] w (RetV w (.agg #[.slice none 0 0, .slice none 0 0, .int .i64 (newF x)])) := by
  by_cases h1 : x < 1
  · have hf : Hid (newF x = 0) := Lib.hid (by unfold newF; rw [if_neg (by omega)])
    go_enter Try.func16, Try.ntmps16
    go_wp2
    refine bodyPost_ret (v := .agg #[.slice none 0 0, .slice none 0 0, .int .i64 0]) (by simp [results, Try.results16, go_sem]) rfl ⟨by rw [hf.out], ?_⟩
    exact (by repeat (first | assumption | exact Below.refl _ _ | refine Below.drew ?_ | refine below_drewN ?_ _ | refine Below.alloc ?_ ?_ _ | refine Below.setCell ?_ ?_ _ | (apply Below.size; assumption) | (simp; done) | (simp; omega) | (have hz := hb.size; simp; omega) | (have hz := hb.size; omega) | omega))
  · by_cases h2 : x > 4096
    · have hf : Hid (newF x = 0) := Lib.hid (by unfold newF; rw [if_neg (by omega)])
      go_enter Try.func16, Try.ntmps16
      go_wp2
      refine bodyPost_ret (v := .agg #[.slice none 0 0, .slice none 0 0, .int .i64 0]) (by simp [results, Try.results16, go_sem]) rfl ⟨by rw [hf.out], ?_⟩
      exact (by repeat (first | assumption | exact Below.refl _ _ | refine Below.drew ?_ | refine below_drewN ?_ _ | refine Below.alloc ?_ ?_ _ | refine Below.setCell ?_ ?_ _ | (apply Below.size; assumption) | (simp; done) | (simp; omega) | (have hz := hb.size; simp; omega) | (have hz := hb.size; omega) | omega))
    · have hf : Hid (newF x = x) := Lib.hid (by unfold newF; rw [if_pos (by omega)])
      go_enter Try.func16, Try.ntmps16
      go_wp2
      refine bodyPost_ret (v := .agg #[.slice none 0 0, .slice none 0 0, .int .i64 x]) (by simp [results, Try.results16, go_sem]) rfl ⟨by rw [hf.out], ?_⟩
      exact (by repeat (first | assumption | exact Below.refl _ _ | refine Below.drew ?_ | refine below_drewN ?_ _ | refine Below.alloc ?_ ?_ _ | refine Below.setCell ?_ ?_ _ | (apply Below.size; assumption) | (simp; done) | (simp; omega) | (have hz := hb.size; simp; omega) | (have hz := hb.size; omega) | omega))
theorem hMark_any (A B D : Option Addr) (n c m d p e : Nat) (r : Int) (w : World) (hn : n ≤ 100000) (hm : m ≤ 100000) :
    Calls Try.prog 25 #[.agg #[.slice A n c, .slice B m d, .int .i64 r], .slice D p e] w (RetV w (.agg #[.int .i64 n, .int .i64 m, .slice D p e])) := by
  go_enter Try.func25, Try.ntmps25
  go_wp2
  refine bodyPost_ret (v := .agg #[.int .i64 n, .int .i64 m, .slice D p e]) (by simp [results, Try.results25, go_sem]) rfl ⟨rfl, ?_⟩
  exact (by repeat (first | assumption | exact Below.refl _ _ | refine Below.drew ?_ | refine below_drewN ?_ _ | refine Below.alloc ?_ ?_ _ | refine Below.setCell ?_ ?_ _ | (apply Below.size; assumption) | (simp; done) | (simp; omega) | (have hz := hb.size; simp; omega) | (have hz := hb.size; omega) | omega))
theorem qMark_any (A B D : Option Addr) (n c m d p e : Nat) (r : Int) (w : World) (hn : n ≤ 100000) (hm : m ≤ 100000) :
    Calls Try.prog 26 #[.agg #[.slice A n c, .slice B m d, .int .i64 r], .slice D p e] w (RetV w (.agg #[.int .i64 n, .int .i64 m, .slice D p e])) := by
  go_enter Try.func26, Try.ntmps26
  go_wp2
  refine bodyPost_ret (v := .agg #[.int .i64 n, .int .i64 m, .slice D p e]) (by simp [results, Try.results26, go_sem]) rfl ⟨rfl, ?_⟩
  exact (by repeat (first | assumption | exact Below.refl _ _ | refine Below.drew ?_ | refine below_drewN ?_ _ | refine Below.alloc ?_ ?_ _ | refine Below.setCell ?_ ?_ _ | (apply Below.size; assumption) | (simp; done) | (simp; omega) | (have hz := hb.size; simp; omega) | (have hz := hb.size; omega) | omega))

def fitI (n : Nat) (x : Int) : Int := if 0 ≤ x ∧ x < (n : Int) then x else -1
def fitsF (n : Nat) (at_ : List Int) : List Int := (at_.take 20).map (fitI n)
theorem fits_wf {n : Nat} {at_ : List Int} (h : ∀ x ∈ at_, i64 x) (hn : n ≤ 100000) : ∀ x ∈ fitsF n at_, i64 x := by
  intro x hx
  obtain ⟨y, hy, rfl⟩ := List.mem_map.1 hx
  unfold fitI
  split
  · exact h y (List.mem_of_mem_take hy)
  · exact ⟨by decide, by decide⟩
theorem fits_snoc {n k : Nat} {at_ : List Int} {x : Int} (h : at_[k]? = some x) : (at_.take (k + 1)).map (fitI n) = (at_.take k).map (fitI n) ++ [fitI n x] := by
  rw [List.take_add_one, h]; simp
set_option maxRecDepth 100000 in
set_option maxHeartbeats 2000000 in
theorem fits_any (A B D : Option Addr) (n c m d p e : Nat) (r : Int) (at_ : List Int) (w : World) (hn : n ≤ 100000) (hD : IsI w D p e at_) :
    Calls Try.prog 18 #[.agg #[.slice A n c, .slice B m d, .int .i64 r], .slice D p e] w (RetI w (fitsF n at_)) := by
  have HD := Lib.hid hD
  have hl := hD.len
  have Hl := Lib.hid hl
  have hcap := hD.sl.hcap
  have hmax := hD.sl.hmax
  unfold maxLen at hmax
  have hb0 : Below w.heap.size w ((w.alloc (.cells #[.slice A n c, .slice B m d, .int .i64 r] 25)).alloc (.cells #[] 3)) := ((Below.refl _ _).alloc (Nat.le_refl _) _).alloc (by first | omega | (simp; done) | (simp; omega)) _
  have hx00 : ((w.alloc (.cells #[.slice A n c, .slice B m d, .int .i64 r] 25)).alloc (.cells #[] 3)).heap[w.heap.size]? = some (.cells #[.slice A n c, .slice B m d, .int .i64 r] 25 (0, 0)) := (alloc_past (by first | omega | (simp; done) | (simp; omega))).trans (alloc_at rfl)
  have Hx00 := Lib.hid hx00
  clear hl hD hx00
  go_enter Try.func18, Try.ntmps18
  go_wp2
  go_loopw [5, 6] (fun o iv wr => ∃ (k c' : Nat) (Ao : Option Addr), k ≤ p ∧ k ≤ 20 ∧ iv = .int .i64 k ∧ o = .slice Ao k c' ∧ wr.ownsRow (w.heap.size + 1) 3 1 (.slice Ao k c') k (((at_.take k).map (fitI n)).map (Value.int .i64)) ∧ Below w.heap.size w wr ∧ wr.heap[w.heap.size]? = some (.cells #[.slice A n c, .slice B m d, .int .i64 r] 25 (0, 0))) (fun _ iv _ => 20 - (intOf iv).toNat)
  case atStart => exact ⟨0, 0, _, Nat.zero_le _, by omega, rfl, rfl, own_lit0 (by first | omega | (simp; done) | (simp; omega)) (Nat.le_refl _), hb0, Hx00.out⟩
  case round =>
    clear hb0 Hx00
    obtain ⟨k, c', Ao, hk, hk20, rfl, rfl, hown, hb, hx0⟩ := hrel
    obtain ⟨y0, y1, y2, yl⟩ := open3 hx0
    have Hx0 := Lib.hid hx0
    clear hx0
    by_cases hkp : k < p
    · by_cases hk2 : k < 20
      · have hd2 : decide ((k : Int) < 20) = true := by simp; omega
        obtain ⟨x, hxk⟩ := HD.out.get hkp
        obtain ⟨bd, od, rfl, hbd, hwx, hcd⟩ := HD.out.at_ hxk
        have hct1 := (hb.cell (p := ⟨bd, od + k, none⟩) hbd).trans hcd
        have hsn := fits_snoc (n := n) hxk
        have Hsn := Lib.hid hsn
        have hqi := qIs_any A B n c m d r x wr.drew hn
        have Hwx := Lib.hid hwx
        clear hxk hcd hsn
        cases hin : (decide (0 ≤ x) && decide (x < (n : Int)))
        · rw [hin] at hqi
          have Hqi := Lib.hid hqi
          have hfi : Hid (fitI n x = -1) := Lib.hid (by unfold fitI; rw [if_neg]; simpa using hin)
          clear hqi hin
          go_upto_region 5 with fail
          go_still_tail 5, (by kernel_rfl)
          change wpList _ _ _ _ _ wr.drew
          have hbd' : Below w.heap.size w wr.drew := hb.drew
          have hx0' : wr.drew.heap[w.heap.size]? = some (.cells #[.slice A n c, .slice B m d, .int .i64 r] 25 (0, 0)) := Hx0.out
          have hown' := own_below hown (show Below wr.heap.size wr wr.drew from (Below.refl _ _).drew)
          have Hx0' := Lib.hid hx0'
          have Hown' := Lib.hid hown'
          have hyl : w.heap.size < wr.drew.heap.size := yl
          clear hx0' hown' hown Hx0 y0 y1 y2 hct1 hb yl
          generalize wr.drew = w1 at *
          go_wp2_with (first
            | (go_at_call 32; go_must (refine Hqi.out.mono ?_); rintro e w2 ⟨rfl, hb2⟩; have hown2 := own_below Hown'.out hb2; have hbw2 := hbd'.trans (hb2.mono hbd'.size); have hsz2 := hb2.size)
            | (at_builtin; go_must (refine wpList_append_own1 rfl (.tmp 31) (.tmp 32) 23 rfl (w.heap.size + 1) 3 Try.underlying23 infoI rfl (by omega) rfl (.inr (hown2.alloc _)) rfl (Sl.lit _ _ [.int .i64 (-1)] 3 1 1 (by first | rfl | simp) rfl (by simp [maxLen])) (one1 rfl) (by omega) (by omega) (by omega) (by first | omega | (simp; omega)) ?_); intro A' cap' w3 hown3 hb3 hap))
          have hbw3 : Below w.heap.size w w3 := (hbw2.alloc hbw2.size _).trans (hb3.mono (by omega))
          have hx3 := (hb3.block w.heap.size (by omega)).trans ((alloc_past (by omega)).trans ((hb2.block w.heap.size hyl).trans Hx0'.out))
          go_roundw
          case rel => exact ⟨k + 1, cap', A', by omega, by omega, by go_num, rfl, by rw [Hsn.out, hfi.out, List.map_append]; exact hown3, hbw3, hx3⟩
          case measure => simp [intOf]; omega
        · rw [hin] at hqi
          have Hqi := Lib.hid hqi
          have hfi : Hid (fitI n x = x) := Lib.hid (by unfold fitI; rw [if_pos]; simpa using hin)
          clear hqi hin
          go_upto_region 5 with fail
          go_still_tail 5, (by kernel_rfl)
          change wpList _ _ _ _ _ wr.drew
          have hbd' : Below w.heap.size w wr.drew := hb.drew
          have hx0' : wr.drew.heap[w.heap.size]? = some (.cells #[.slice A n c, .slice B m d, .int .i64 r] 25 (0, 0)) := Hx0.out
          have hown' := own_below hown (show Below wr.heap.size wr wr.drew from (Below.refl _ _).drew)
          have Hx0' := Lib.hid hx0'
          have Hown' := Lib.hid hown'
          have hyl : w.heap.size < wr.drew.heap.size := yl
          have hct2 : wr.drew.cell? ⟨bd, od + k, none⟩ = some (.int .i64 x) := hct1
          have Hct2 := Lib.hid hct2
          have hbdr : bd < wr.drew.heap.size := Nat.lt_of_lt_of_le hbd hbd'.size
          clear hx0' hown' hown Hx0 y0 y1 y2 hct1 hb yl hct2
          generalize wr.drew = w1 at *
          go_wp2_with (first
            | (go_at_call 32; go_must (refine Hqi.out.mono ?_); rintro e w2 ⟨rfl, hb2⟩; have hown2 := own_below Hown'.out hb2; have hbw2 := hbd'.trans (hb2.mono hbd'.size); have hsz2 := hb2.size; have hct3 := (hb2.cell (p := ⟨bd, od + k, none⟩) hbdr).trans Hct2.out)
            | (at_builtin; go_must (refine wpList_append_own1 rfl (.tmp 24) (.tmp 29) 23 rfl (w.heap.size + 1) 3 Try.underlying23 infoI rfl (by omega) rfl (.inr (hown2.alloc _)) rfl (Sl.lit _ _ [.int .i64 x] 3 1 1 (by first | rfl | simp) rfl (by simp [maxLen])) (one1 rfl) (by omega) (by omega) (by omega) (by first | omega | (simp; omega)) ?_); intro A' cap' w3 hown3 hb3 hap))
          have hbw3 : Below w.heap.size w w3 := (hbw2.alloc hbw2.size _).trans (hb3.mono (by omega))
          have hx3 := (hb3.block w.heap.size (by omega)).trans ((alloc_past (by omega)).trans ((hb2.block w.heap.size hyl).trans Hx0'.out))
          go_roundw
          case rel => exact ⟨k + 1, cap', A', by omega, by omega, by go_num, rfl, by rw [Hsn.out, hfi.out, List.map_append]; exact hown3, hbw3, hx3⟩
          case measure => simp [intOf]; omega
      · have hk3 : k = 20 := by omega
        subst hk3
        have hd2 : decide ((20 : Int) < 20) = false := by simp
        have hres : IsI wr Ao 20 c' (fitsF n at_) := ⟨Sl.own hown (by omega), fits_wf HD.out.wf hn⟩
        have Hres := Lib.hid hres
        clear hres hown
        go_wp2
        go_ret
        exact ⟨_, _, _, rfl, Hres.out, hb⟩
    · have hk3 : k = p := by omega
      subst hk3
      have hres : IsI wr Ao k c' (fitsF n at_) := ⟨by
        have := Sl.own hown (by omega)
        rw [List.take_of_length_le (by have := Hl.out; omega)] at this
        unfold fitsF
        rw [List.take_of_length_le (by have := Hl.out; omega)]
        exact this, fits_wf HD.out.wf hn⟩
      have Hres := Lib.hid hres
      clear hres hown
      go_wp2
      go_ret
      exact ⟨_, _, _, rfl, Hres.out, hb⟩
end Go.Proofs.Ytlndjooddkjnoaa
