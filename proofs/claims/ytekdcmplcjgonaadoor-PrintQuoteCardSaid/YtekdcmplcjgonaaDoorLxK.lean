/- The walk that tells a text's token. -/
import Derived.Test.YtekdcmplcjgonaaDoorLxT
set_option linter.unusedVariables false
set_option linter.unusedSimpArgs false
namespace Go.Proofs.YtekdcmplcjgonaaDoor
open Go.RowKit

/-- the token at a place, and the place behind it -/
inductive TokP (s : ByteArray) (p : Nat) : Int → ByteArray → Int → Nat → Prop
  | name (c : UInt8) (h : s.data.toList[p]? = some c) (hc : lowB c = true) (hq : endF letB s p ≤ p + 12) : TokP s p 1 (s.extract p (endF letB s p)) 0 (endF letB s p)
  | var (c : UInt8) (h : s.data.toList[p]? = some c) (hc : greatB c = true) : TokP s p 2 (s.extract p (endF letB s p)) 0 (endF letB s p)
  | num (c : UInt8) (h : s.data.toList[p]? = some c) (hc : digB c = true) (hv : valD ((s.data.toList.drop p).takeWhile digB) ≤ 2147483647) : TokP s p 3 (s.extract p (endF digB s p)) (valD ((s.data.toList.drop p).takeWhile digB)) (endF digB s p)
  | quo (nm : ByteArray) (h : QuoP s p nm) : TokP s p 1 nm 0 (p + nm.size + 2)
  | punct (c : UInt8) (h : s.data.toList[p]? = some c) (hc : c = 40 ∨ c = 41 ∨ c = 91 ∨ c = 93 ∨ c = 44 ∨ c = 124) : TokP s p 5 (s.extract p (p + 1)) 0 (p + 1)
  | stop (h : s.data.toList[p]? = some 46) (hn : p + 1 = s.size ∨ ∃ d, s.data.toList[p + 1]? = some d ∧ blankB d = true) : TokP s p 6 (s.extract p (p + 1)) 0 (p + 1)
  | sym (c : UInt8) (h : s.data.toList[p]? = some c) (hc : signB c = true) (h46 : c ≠ 46) (hq : endF signB s p ≤ p + 12) : TokP s p 4 (s.extract p (endF signB s p)) 0 (endF signB s p)
theorem get_lt {s : ByteArray} {p : Nat} {c : UInt8} (h : s.data.toList[p]? = some c) : p < s.size := by have := (List.getElem?_eq_some_iff.1 h).1; simpa using this
theorem get_eq {s : ByteArray} {p : Nat} {c : UInt8} (h : s.data.toList[p]? = some c) (hp : p < s.size) : s[p] = c := by rw [str_get s hp] at h; exact Option.some.inj h
theorem endF_ge {p : UInt8 → Bool} {s : ByteArray} {k : Nat} : k ≤ endF p s k := by unfold endF; omega
/-- how a byte is classed -/
structure Cls8 (c : UInt8) (l g d q : Bool) : Prop where
  low : lowB c = l
  great : greatB c = g
  dig : digB c = d
  quo : (c == 39) = q
def punctL : List UInt8 := [40, 41, 91, 93, 44, 124]
theorem low_cls {c : UInt8} (h : lowB c = true) : True := trivial
theorem great_not {c : UInt8} (h : greatB c = true) : lowB c = false := by
  unfold greatB upB at h
  unfold lowB
  rw [Bool.and_eq_false_iff]
  left
  rw [decide_eq_false_iff_not, UInt8.le_iff_toNat_le]
  simp only [Bool.or_eq_true, Bool.and_eq_true, decide_eq_true_eq, UInt8.le_iff_toNat_le, beq_iff_eq] at h
  have e1 : (90 : UInt8).toNat = 90 := rfl
  have e2 : (97 : UInt8).toNat = 97 := rfl
  rcases h with h | rfl
  · omega
  · decide
theorem dig_not {c : UInt8} (h : digB c = true) : lowB c = false ∧ greatB c = false := by
  unfold digB at h
  simp only [Bool.and_eq_true, decide_eq_true_eq, UInt8.le_iff_toNat_le] at h
  have e1 : (57 : UInt8).toNat = 57 := rfl
  have e2 : (97 : UInt8).toNat = 97 := rfl
  have e3 : (65 : UInt8).toNat = 65 := rfl
  refine ⟨?_, ?_⟩
  · unfold lowB; rw [Bool.and_eq_false_iff]; left; rw [decide_eq_false_iff_not, UInt8.le_iff_toNat_le]; omega
  · unfold greatB upB
    rw [Bool.or_eq_false_iff, Bool.and_eq_false_iff]
    refine ⟨.inl ?_, ?_⟩
    · rw [decide_eq_false_iff_not, UInt8.le_iff_toNat_le]; omega
    · rw [← Bool.not_eq_true, beq_iff_eq]; rintro rfl; revert h; decide
theorem sign_cases {c : UInt8} (h : signB c = true) (_h46 : c ≠ 46) : lowB c = false ∧ greatB c = false ∧ digB c = false ∧ ((⟨#[40, 41, 91, 93, 44, 124]⟩ : ByteArray).data.toList.any fun d => d == c) = false ∧ c ≠ 39 := by
  unfold signB signs at h
  simp only [List.any_cons, List.any_nil, Bool.or_false, Bool.or_eq_true, beq_iff_eq] at h
  rcases h with h | h | h | h | h | h | h | h | h | h | h | h | h | h | h | h | h <;> (rw [← h]; exact ⟨by decide, by decide, by decide, by decide, by decide⟩)
set_option maxRecDepth 100000 in
set_option maxHeartbeats 4000000 in
theorem lxToken_name (s : ByteArray) (hs : s.size ≤ 1000000) (p : Nat) (c : UInt8) (h : s.data.toList[p]? = some c) (hc : lowB c = true) (hq : endF letB s p ≤ p + 12) (w : World) : Calls Tryd.prog 57 #[.string s, .int .i64 p] w (RetTk w 1 (s.extract p (endF letB s p)) 0 p (endF letB s p)) := by
  have hp := get_lt h
  have hy := get_eq h hp
  obtain ⟨v, hv⟩ : ∃ v : Int, (c.toNat : Int) = v := ⟨_, rfl⟩
  have hvi : (s[p].toNat : Int) = v := by rw [hy]; exact hv
  have hSm := fun w => lxSmall_any c v hv w
  rw [hc] at hSm
  have HSm := Lib.hid hSm
  clear hSm
  have hr := fun w => lxRowL_any s hs p (by omega) w
  have hle := (run_take (p := letB) s p (by omega)).1
  have hge : p ≤ endF letB s p := endF_ge
  obtain ⟨q, hqq⟩ : ∃ q, endF letB s p = q := ⟨_, rfl⟩
  rw [hqq] at hr hle hge hq ⊢
  have hsh := fun w => lxShort_any s hs p q 1 hge hle hq w
  have Hr := Lib.hid hr
  have Hsh := Lib.hid hsh
  clear hr hsh hqq hy hv h hc
  have hx0 := Lib.hid (show (w.alloc (.cells #[.int .i64 0, .string ⟨#[]⟩, .int .i64 0, .int .i64 0] 60)).heap[w.heap.size]? = some (.cells #[.int .i64 0, .string ⟨#[]⟩, .int .i64 0, .int .i64 0] 60 (0, 0)) from alloc_at rfl)
  have Hal := Lib.hid (show Below w.heap.size w (w.alloc (.cells #[.int .i64 0, .string ⟨#[]⟩, .int .i64 0, .int .i64 0] 60)) from (Below.refl _ _).alloc (Nat.le_refl _) _)
  go_enter Tryd.func57, Tryd.ntmps57
  go_wp2_with (first
    | (go_at_call 71; refine (HSm.out _).mono ?_; rintro e w1 ⟨rfl, rfl⟩)
    | (go_at_call 73; refine (Hr.out _).mono ?_; rintro e w1 ⟨rfl, rfl⟩)
    | (go_at_call 72; refine (Hsh.out _).mono ?_; rintro e w1 ⟨rfl, hb⟩; have hx := (hb.block w.heap.size (by simp)).trans hx0.out; have x0 := cells_of hx 0; have x1 := cells_of hx 1; have x2 := cells_of hx 2; have x3 := cells_of hx 3; have y0 := frozenOf hx 0; have y1 := frozenOf hx 1; have y2 := frozenOf hx 2; have y3 := frozenOf hx 3; have xl := block_lt hx; simp at x0 x1 x2 x3; have Hb := Lib.hid hb))
  refine bodyPost_ret (v := .tuple #[.agg #[.int .i64 1, .string (s.extract p q), .int .i64 0, .int .i64 p], .int .i64 q, .int .i64 0]) (by simp [results, Tryd.results57, go_sem, *]) rfl ⟨rfl, ?_⟩
  exact ((((Hal.out.trans (Hb.out.mono (by simp))).setCell (p := ⟨w.heap.size, 0, none⟩) (Nat.le_refl _) _).setCell (p := ⟨w.heap.size, 1, none⟩) (Nat.le_refl _) _).setCell (p := ⟨w.heap.size, 2, none⟩) (Nat.le_refl _) _).setCell (p := ⟨w.heap.size, 3, none⟩) (Nat.le_refl _) _
set_option maxRecDepth 100000 in
set_option maxHeartbeats 4000000 in
theorem lxToken_var (s : ByteArray) (hs : s.size ≤ 1000000) (p : Nat) (c : UInt8) (h : s.data.toList[p]? = some c) (hc : greatB c = true) (w : World) : Calls Tryd.prog 57 #[.string s, .int .i64 p] w (RetTk w 2 (s.extract p (endF letB s p)) 0 p (endF letB s p)) := by
  have hp := get_lt h
  have hy := get_eq h hp
  obtain ⟨v, hv⟩ : ∃ v : Int, (c.toNat : Int) = v := ⟨_, rfl⟩
  have hvi : (s[p].toNat : Int) = v := by rw [hy]; exact hv
  have hSm := fun w => lxSmall_any c v hv w
  rw [great_not hc] at hSm
  have HSm := Lib.hid hSm
  clear hSm
  have hGr := fun w => lxGreat_any c v hv w
  rw [hc] at hGr
  have HGr := Lib.hid hGr
  clear hGr
  have hr := fun w => lxRowL_any s hs p (by omega) w
  have hle := (run_take (p := letB) s p (by omega)).1
  have hge : p ≤ endF letB s p := endF_ge
  obtain ⟨q, hqq⟩ : ∃ q, endF letB s p = q := ⟨_, rfl⟩
  rw [hqq] at hr hle hge ⊢
  have Hr := Lib.hid hr
  clear hr hqq hy hv h hc
  have hx0 := Lib.hid (show (w.alloc (.cells #[.int .i64 0, .string ⟨#[]⟩, .int .i64 0, .int .i64 0] 60)).heap[w.heap.size]? = some (.cells #[.int .i64 0, .string ⟨#[]⟩, .int .i64 0, .int .i64 0] 60 (0, 0)) from alloc_at rfl)
  have Hal := Lib.hid (show Below w.heap.size w (w.alloc (.cells #[.int .i64 0, .string ⟨#[]⟩, .int .i64 0, .int .i64 0] 60)) from (Below.refl _ _).alloc (Nat.le_refl _) _)
  go_enter Tryd.func57, Tryd.ntmps57
  go_wp2_with (first
    | (go_at_call 71; refine (HSm.out _).mono ?_; rintro e w1 ⟨rfl, rfl⟩)
    | (go_at_call 74; refine (HGr.out _).mono ?_; rintro e w1 ⟨rfl, rfl⟩)
    | (go_at_call 73; refine (Hr.out _).mono ?_; rintro e w1 ⟨rfl, rfl⟩))
  refine bodyPost_ret (v := .tuple #[.agg #[.int .i64 2, .string (s.extract p q), .int .i64 0, .int .i64 p], .int .i64 q, .int .i64 0]) (by simp [results, Tryd.results57, go_sem, *]) rfl ⟨rfl, ?_⟩
  repeat (first | exact Below.refl _ _ | refine Below.setCell ?_ (by simp) _ | refine Below.alloc ?_ (by simp) _)
set_option maxRecDepth 100000 in
set_option maxHeartbeats 4000000 in
theorem lxToken_num (s : ByteArray) (hs : s.size ≤ 1000000) (p : Nat) (c : UInt8) (h : s.data.toList[p]? = some c) (hc : digB c = true) (hq : valD ((s.data.toList.drop p).takeWhile digB) ≤ 2147483647) (w : World) : Calls Tryd.prog 57 #[.string s, .int .i64 p] w (RetTk w 3 (s.extract p (endF digB s p)) (valD ((s.data.toList.drop p).takeWhile digB)) p (endF digB s p)) := by
  have hp := get_lt h
  have hy := get_eq h hp
  obtain ⟨v, hv⟩ : ∃ v : Int, (c.toNat : Int) = v := ⟨_, rfl⟩
  have hvi : (s[p].toNat : Int) = v := by rw [hy]; exact hv
  have hSm := fun w => lxSmall_any c v hv w
  rw [(dig_not hc).1] at hSm
  have HSm := Lib.hid hSm
  clear hSm
  have hGr := fun w => lxGreat_any c v hv w
  rw [(dig_not hc).2] at hGr
  have HGr := Lib.hid hGr
  clear hGr
  have hDi := fun w => lxDigit_any c v hv w
  rw [hc] at hDi
  have HDi := Lib.hid hDi
  clear hDi
  have hnum := fun w => lxNumber_any s hs p (by omega) hq w
  obtain ⟨q, hqq⟩ : ∃ q, endF digB s p = q := ⟨_, rfl⟩
  obtain ⟨N, hN⟩ : ∃ q, valD ((s.data.toList.drop p).takeWhile digB) = q := ⟨_, rfl⟩
  rw [hqq, hN] at hnum ⊢
  have Hnum := Lib.hid hnum
  clear hnum hqq hN hq hy hv h hc
  have hx0 := Lib.hid (show (w.alloc (.cells #[.int .i64 0, .string ⟨#[]⟩, .int .i64 0, .int .i64 0] 60)).heap[w.heap.size]? = some (.cells #[.int .i64 0, .string ⟨#[]⟩, .int .i64 0, .int .i64 0] 60 (0, 0)) from alloc_at rfl)
  have Hal := Lib.hid (show Below w.heap.size w (w.alloc (.cells #[.int .i64 0, .string ⟨#[]⟩, .int .i64 0, .int .i64 0] 60)) from (Below.refl _ _).alloc (Nat.le_refl _) _)
  go_enter Tryd.func57, Tryd.ntmps57
  go_wp2_with (first
    | (go_at_call 71; refine (HSm.out _).mono ?_; rintro e w1 ⟨rfl, rfl⟩)
    | (go_at_call 74; refine (HGr.out _).mono ?_; rintro e w1 ⟨rfl, rfl⟩)
    | (go_at_call 75; refine (HDi.out _).mono ?_; rintro e w1 ⟨rfl, rfl⟩)
    | (go_at_call 76; refine (Hnum.out _).mono ?_; rintro e w1 ⟨rfl, hb⟩; have hx := (hb.block w.heap.size (by simp)).trans hx0.out; have x0 := cells_of hx 0; have x1 := cells_of hx 1; have x2 := cells_of hx 2; have x3 := cells_of hx 3; have y0 := frozenOf hx 0; have y1 := frozenOf hx 1; have y2 := frozenOf hx 2; have y3 := frozenOf hx 3; have xl := block_lt hx; simp at x0 x1 x2 x3; have Hb := Lib.hid hb))
  refine bodyPost_ret (v := .tuple #[.agg #[.int .i64 3, .string (s.extract p q), .int .i64 N, .int .i64 p], .int .i64 q, .int .i64 0]) (by simp [results, Tryd.results57, go_sem, *]) rfl ⟨rfl, ?_⟩
  exact ((((Hal.out.trans (Hb.out.mono (by simp))).setCell (p := ⟨w.heap.size, 0, none⟩) (Nat.le_refl _) _).setCell (p := ⟨w.heap.size, 1, none⟩) (Nat.le_refl _) _).setCell (p := ⟨w.heap.size, 2, none⟩) (Nat.le_refl _) _).setCell (p := ⟨w.heap.size, 3, none⟩) (Nat.le_refl _) _
set_option maxRecDepth 100000 in
set_option maxHeartbeats 4000000 in
theorem lxToken_quo (s : ByteArray) (hs : s.size ≤ 1000000) (p : Nat) (nm : ByteArray) (hq : QuoP s p nm) (w : World) : Calls Tryd.prog 57 #[.string s, .int .i64 p] w (RetTk w 1 nm 0 p (p + nm.size + 2)) := by
  have h : s.data.toList[p]? = some 39 := by
    have := congrArg (fun l : List UInt8 => l[0]?) hq.here
    simp only [List.getElem?_take, List.getElem?_drop] at this
    rw [if_pos (by omega)] at this
    exact this
  have hp := get_lt h
  have hy := get_eq h hp
  obtain ⟨v, hv⟩ : ∃ v : Int, ((39 : UInt8).toNat : Int) = v := ⟨_, rfl⟩
  have hvi : (s[p].toNat : Int) = v := by rw [hy]; exact hv
  have hSm := fun w => lxSmall_any 39 v hv w
  rw [show lowB 39 = false from by decide] at hSm
  have HSm := Lib.hid hSm
  clear hSm
  have hGr := fun w => lxGreat_any 39 v hv w
  rw [show greatB 39 = false from by decide] at hGr
  have HGr := Lib.hid hGr
  clear hGr
  have hDi := fun w => lxDigit_any 39 v hv w
  rw [show digB 39 = false from by decide] at hDi
  have HDi := Lib.hid hDi
  clear hDi
  obtain rfl : v = 39 := hv.symm
  have hquo := fun w => lxQuoted_any s hs p nm hq w
  obtain ⟨q, hqq⟩ : ∃ q, p + nm.size + 2 = q := ⟨_, rfl⟩
  rw [hqq] at hquo ⊢
  have Hquo := Lib.hid hquo
  clear hquo hqq hq hy hv h
  have hx0 := Lib.hid (show (w.alloc (.cells #[.int .i64 0, .string ⟨#[]⟩, .int .i64 0, .int .i64 0] 60)).heap[w.heap.size]? = some (.cells #[.int .i64 0, .string ⟨#[]⟩, .int .i64 0, .int .i64 0] 60 (0, 0)) from alloc_at rfl)
  have Hal := Lib.hid (show Below w.heap.size w (w.alloc (.cells #[.int .i64 0, .string ⟨#[]⟩, .int .i64 0, .int .i64 0] 60)) from (Below.refl _ _).alloc (Nat.le_refl _) _)
  go_enter Tryd.func57, Tryd.ntmps57
  go_wp2_with (first
    | (go_at_call 71; refine (HSm.out _).mono ?_; rintro e w1 ⟨rfl, rfl⟩)
    | (go_at_call 74; refine (HGr.out _).mono ?_; rintro e w1 ⟨rfl, rfl⟩)
    | (go_at_call 75; refine (HDi.out _).mono ?_; rintro e w1 ⟨rfl, rfl⟩)
    | (go_at_call 77; refine (Hquo.out _).mono ?_; rintro e w1 ⟨rfl, hb⟩; have hx := (hb.block w.heap.size (by simp)).trans hx0.out; have x0 := cells_of hx 0; have x1 := cells_of hx 1; have x2 := cells_of hx 2; have x3 := cells_of hx 3; have y0 := frozenOf hx 0; have y1 := frozenOf hx 1; have y2 := frozenOf hx 2; have y3 := frozenOf hx 3; have xl := block_lt hx; simp at x0 x1 x2 x3; have Hb := Lib.hid hb))
  refine bodyPost_ret (v := .tuple #[.agg #[.int .i64 1, .string nm, .int .i64 0, .int .i64 p], .int .i64 q, .int .i64 0]) (by simp [results, Tryd.results57, go_sem, *]) rfl ⟨rfl, ?_⟩
  exact ((((Hal.out.trans (Hb.out.mono (by simp))).setCell (p := ⟨w.heap.size, 0, none⟩) (Nat.le_refl _) _).setCell (p := ⟨w.heap.size, 1, none⟩) (Nat.le_refl _) _).setCell (p := ⟨w.heap.size, 2, none⟩) (Nat.le_refl _) _).setCell (p := ⟨w.heap.size, 3, none⟩) (Nat.le_refl _) _
set_option maxRecDepth 100000 in
set_option maxHeartbeats 4000000 in
theorem lxToken_punct (s : ByteArray) (hs : s.size ≤ 1000000) (p : Nat) (c : UInt8) (h : s.data.toList[p]? = some c) (hc : c = 40 ∨ c = 41 ∨ c = 91 ∨ c = 93 ∨ c = 44 ∨ c = 124) (w : World) : Calls Tryd.prog 57 #[.string s, .int .i64 p] w (RetTk w 5 (s.extract p (p + 1)) 0 p (p + 1)) := by
  have hp := get_lt h
  have hy := get_eq h hp
  obtain ⟨v, hv⟩ : ∃ v : Int, (c.toNat : Int) = v := ⟨_, rfl⟩
  have hvi : (s[p].toNat : Int) = v := by rw [hy]; exact hv
  have hSm := fun w => lxSmall_any c v hv w
  rw [show lowB c = false from by rcases hc with rfl | rfl | rfl | rfl | rfl | rfl <;> decide] at hSm
  have HSm := Lib.hid hSm
  clear hSm
  have hGr := fun w => lxGreat_any c v hv w
  rw [show greatB c = false from by rcases hc with rfl | rfl | rfl | rfl | rfl | rfl <;> decide] at hGr
  have HGr := Lib.hid hGr
  clear hGr
  have hDi := fun w => lxDigit_any c v hv w
  rw [show digB c = false from by rcases hc with rfl | rfl | rfl | rfl | rfl | rfl <;> decide] at hDi
  have HDi := Lib.hid hDi
  clear hDi
  have hin := fun w => lxIn_any ⟨#[40, 41, 91, 93, 44, 124]⟩ (by decide) c v hv w
  rw [show ((⟨#[40, 41, 91, 93, 44, 124]⟩ : ByteArray).data.toList.any fun d => d == c) = true from by rcases hc with rfl | rfl | rfl | rfl | rfl | rfl <;> decide] at hin
  have h39 : (v == 39) = false := by rw [← Bool.not_eq_true, beq_iff_eq, ← hv]; rcases hc with rfl | rfl | rfl | rfl | rfl | rfl <;> decide
  have hsh := fun w => lxShort_any s hs p (p + 1) 5 (by omega) (by omega) (by omega) w
  have Hin := Lib.hid hin
  have Hsh := Lib.hid hsh
  clear hin hsh hy hv h hc
  have hx0 := Lib.hid (show (w.alloc (.cells #[.int .i64 0, .string ⟨#[]⟩, .int .i64 0, .int .i64 0] 60)).heap[w.heap.size]? = some (.cells #[.int .i64 0, .string ⟨#[]⟩, .int .i64 0, .int .i64 0] 60 (0, 0)) from alloc_at rfl)
  have Hal := Lib.hid (show Below w.heap.size w (w.alloc (.cells #[.int .i64 0, .string ⟨#[]⟩, .int .i64 0, .int .i64 0] 60)) from (Below.refl _ _).alloc (Nat.le_refl _) _)
  go_enter Tryd.func57, Tryd.ntmps57
  go_wp2_with (first
    | (go_at_call 71; refine (HSm.out _).mono ?_; rintro e w1 ⟨rfl, rfl⟩)
    | (go_at_call 74; refine (HGr.out _).mono ?_; rintro e w1 ⟨rfl, rfl⟩)
    | (go_at_call 75; refine (HDi.out _).mono ?_; rintro e w1 ⟨rfl, rfl⟩)
    | (go_at_call 78; refine (Hin.out _).mono ?_; rintro e w1 ⟨rfl, rfl⟩)
    | (go_at_call 72; refine (Hsh.out _).mono ?_; rintro e w1 ⟨rfl, hb⟩; have hx := (hb.block w.heap.size (by simp)).trans hx0.out; have x0 := cells_of hx 0; have x1 := cells_of hx 1; have x2 := cells_of hx 2; have x3 := cells_of hx 3; have y0 := frozenOf hx 0; have y1 := frozenOf hx 1; have y2 := frozenOf hx 2; have y3 := frozenOf hx 3; have xl := block_lt hx; simp at x0 x1 x2 x3; have Hb := Lib.hid hb))
  refine bodyPost_ret (v := .tuple #[.agg #[.int .i64 5, .string (s.extract p (p + 1)), .int .i64 0, .int .i64 p], .int .i64 (p + 1 : Nat), .int .i64 0]) (by simp [results, Tryd.results57, go_sem, *]) rfl ⟨rfl, ?_⟩
  exact ((((Hal.out.trans (Hb.out.mono (by simp))).setCell (p := ⟨w.heap.size, 0, none⟩) (Nat.le_refl _) _).setCell (p := ⟨w.heap.size, 1, none⟩) (Nat.le_refl _) _).setCell (p := ⟨w.heap.size, 2, none⟩) (Nat.le_refl _) _).setCell (p := ⟨w.heap.size, 3, none⟩) (Nat.le_refl _) _
set_option maxRecDepth 100000 in
set_option maxHeartbeats 4000000 in
theorem lxToken_sym (s : ByteArray) (hs : s.size ≤ 1000000) (p : Nat) (c : UInt8) (h : s.data.toList[p]? = some c) (hc : signB c = true) (h46 : c ≠ 46) (hq : endF signB s p ≤ p + 12) (w : World) : Calls Tryd.prog 57 #[.string s, .int .i64 p] w (RetTk w 4 (s.extract p (endF signB s p)) 0 p (endF signB s p)) := by
  have hp := get_lt h
  have hy := get_eq h hp
  obtain ⟨v, hv⟩ : ∃ v : Int, (c.toNat : Int) = v := ⟨_, rfl⟩
  have hvi : (s[p].toNat : Int) = v := by rw [hy]; exact hv
  have hcs := sign_cases hc h46
  have hSm := fun w => lxSmall_any c v hv w
  rw [show lowB c = false from hcs.1] at hSm
  have HSm := Lib.hid hSm
  clear hSm
  have hGr := fun w => lxGreat_any c v hv w
  rw [show greatB c = false from hcs.2.1] at hGr
  have HGr := Lib.hid hGr
  clear hGr
  have hDi := fun w => lxDigit_any c v hv w
  rw [show digB c = false from hcs.2.2.1] at hDi
  have HDi := Lib.hid hDi
  clear hDi
  have hin := fun w => lxIn_any ⟨#[40, 41, 91, 93, 44, 124]⟩ (by decide) c v hv w
  rw [show ((⟨#[40, 41, 91, 93, 44, 124]⟩ : ByteArray).data.toList.any fun d => d == c) = false from hcs.2.2.2.1] at hin
  have h39 : (v == 39) = false := by rw [← Bool.not_eq_true, beq_iff_eq]; intro e; exact hcs.2.2.2.2 (UInt8.toNat_inj.1 (by have : (39 : UInt8).toNat = 39 := rfl; omega))
  have h46' : (v == 46) = false := by rw [← Bool.not_eq_true, beq_iff_eq]; intro e; exact h46 (UInt8.toNat_inj.1 (by have : (46 : UInt8).toNat = 46 := rfl; omega))
  have hSi := fun w => lxSign_any c v hv w
  rw [hc] at hSi
  have HSi := Lib.hid hSi
  clear hSi
  have hr := fun w => lxRowS_any s hs p (by omega) w
  have hle := (run_take (p := signB) s p (by omega)).1
  have hge : p ≤ endF signB s p := endF_ge
  obtain ⟨q, hqq⟩ : ∃ q, endF signB s p = q := ⟨_, rfl⟩
  rw [hqq] at hr hle hge hq ⊢
  have hsh := fun w => lxShort_any s hs p q 4 hge hle hq w
  have Hin := Lib.hid hin
  have Hr := Lib.hid hr
  have Hsh := Lib.hid hsh
  clear hin hr hsh hqq hy hv h hc hcs h46
  have hx0 := Lib.hid (show (w.alloc (.cells #[.int .i64 0, .string ⟨#[]⟩, .int .i64 0, .int .i64 0] 60)).heap[w.heap.size]? = some (.cells #[.int .i64 0, .string ⟨#[]⟩, .int .i64 0, .int .i64 0] 60 (0, 0)) from alloc_at rfl)
  have Hal := Lib.hid (show Below w.heap.size w (w.alloc (.cells #[.int .i64 0, .string ⟨#[]⟩, .int .i64 0, .int .i64 0] 60)) from (Below.refl _ _).alloc (Nat.le_refl _) _)
  go_enter Tryd.func57, Tryd.ntmps57
  go_wp2_with (first
    | (go_at_call 71; refine (HSm.out _).mono ?_; rintro e w1 ⟨rfl, rfl⟩)
    | (go_at_call 74; refine (HGr.out _).mono ?_; rintro e w1 ⟨rfl, rfl⟩)
    | (go_at_call 75; refine (HDi.out _).mono ?_; rintro e w1 ⟨rfl, rfl⟩)
    | (go_at_call 78; refine (Hin.out _).mono ?_; rintro e w1 ⟨rfl, rfl⟩)
    | (go_at_call 79; refine (HSi.out _).mono ?_; rintro e w1 ⟨rfl, rfl⟩)
    | (go_at_call 73; refine (Hr.out _).mono ?_; rintro e w1 ⟨rfl, rfl⟩)
    | (go_at_call 72; refine (Hsh.out _).mono ?_; rintro e w1 ⟨rfl, hb⟩; have hx := (hb.block w.heap.size (by simp)).trans hx0.out; have x0 := cells_of hx 0; have x1 := cells_of hx 1; have x2 := cells_of hx 2; have x3 := cells_of hx 3; have y0 := frozenOf hx 0; have y1 := frozenOf hx 1; have y2 := frozenOf hx 2; have y3 := frozenOf hx 3; have xl := block_lt hx; simp at x0 x1 x2 x3; have Hb := Lib.hid hb))
  refine bodyPost_ret (v := .tuple #[.agg #[.int .i64 4, .string (s.extract p q), .int .i64 0, .int .i64 p], .int .i64 q, .int .i64 0]) (by simp [results, Tryd.results57, go_sem, *]) rfl ⟨rfl, ?_⟩
  exact ((((Hal.out.trans (Hb.out.mono (by simp))).setCell (p := ⟨w.heap.size, 0, none⟩) (Nat.le_refl _) _).setCell (p := ⟨w.heap.size, 1, none⟩) (Nat.le_refl _) _).setCell (p := ⟨w.heap.size, 2, none⟩) (Nat.le_refl _) _).setCell (p := ⟨w.heap.size, 3, none⟩) (Nat.le_refl _) _
set_option maxRecDepth 100000 in
set_option maxHeartbeats 4000000 in
theorem lxToken_stop0 (s : ByteArray) (hs : s.size ≤ 1000000) (p : Nat) (h46 : s.data.toList[p]? = some 46) (he : p + 1 = s.size) (w : World) : Calls Tryd.prog 57 #[.string s, .int .i64 p] w (RetTk w 6 (s.extract p (p + 1)) 0 p (p + 1)) := by
  have h := h46
  have hp := get_lt h
  have hy := get_eq h hp
  obtain ⟨v, hv⟩ : ∃ v : Int, ((46 : UInt8).toNat : Int) = v := ⟨_, rfl⟩
  have hvi : (s[p].toNat : Int) = v := by rw [hy]; exact hv
  have hSm := fun w => lxSmall_any 46 v hv w
  rw [show lowB 46 = false from by decide] at hSm
  have HSm := Lib.hid hSm
  clear hSm
  have hGr := fun w => lxGreat_any 46 v hv w
  rw [show greatB 46 = false from by decide] at hGr
  have HGr := Lib.hid hGr
  clear hGr
  have hDi := fun w => lxDigit_any 46 v hv w
  rw [show digB 46 = false from by decide] at hDi
  have HDi := Lib.hid hDi
  clear hDi
  have hin := fun w => lxIn_any ⟨#[40, 41, 91, 93, 44, 124]⟩ (by decide) 46 v hv w
  rw [show ((⟨#[40, 41, 91, 93, 44, 124]⟩ : ByteArray).data.toList.any fun d => d == (46 : UInt8)) = false from by decide] at hin
  obtain rfl : v = 46 := hv.symm
  have hsh := fun w => lxShort_any s hs p (p + 1) 6 (by omega) (by omega) (by omega) w
  have Hin := Lib.hid hin
  have Hsh := Lib.hid hsh
  have t1 : ((p : Int) + 1 == (s.size : Int)) = true := by rw [beq_iff_eq]; omega
  clear hin hsh hy hv h h46
  have hx0 := Lib.hid (show (w.alloc (.cells #[.int .i64 0, .string ⟨#[]⟩, .int .i64 0, .int .i64 0] 60)).heap[w.heap.size]? = some (.cells #[.int .i64 0, .string ⟨#[]⟩, .int .i64 0, .int .i64 0] 60 (0, 0)) from alloc_at rfl)
  have Hal := Lib.hid (show Below w.heap.size w (w.alloc (.cells #[.int .i64 0, .string ⟨#[]⟩, .int .i64 0, .int .i64 0] 60)) from (Below.refl _ _).alloc (Nat.le_refl _) _)
  go_enter Tryd.func57, Tryd.ntmps57
  go_wp2_with (first
    | (go_at_call 71; refine (HSm.out _).mono ?_; rintro e w1 ⟨rfl, rfl⟩)
    | (go_at_call 74; refine (HGr.out _).mono ?_; rintro e w1 ⟨rfl, rfl⟩)
    | (go_at_call 75; refine (HDi.out _).mono ?_; rintro e w1 ⟨rfl, rfl⟩)
    | (go_at_call 78; refine (Hin.out _).mono ?_; rintro e w1 ⟨rfl, rfl⟩)
    | (go_at_call 72; refine (Hsh.out _).mono ?_; rintro e w1 ⟨rfl, hb⟩; have hx := (hb.block w.heap.size (by simp)).trans hx0.out; have x0 := cells_of hx 0; have x1 := cells_of hx 1; have x2 := cells_of hx 2; have x3 := cells_of hx 3; have y0 := frozenOf hx 0; have y1 := frozenOf hx 1; have y2 := frozenOf hx 2; have y3 := frozenOf hx 3; have xl := block_lt hx; simp at x0 x1 x2 x3; have Hb := Lib.hid hb))
  refine bodyPost_ret (v := .tuple #[.agg #[.int .i64 6, .string (s.extract p (p + 1)), .int .i64 0, .int .i64 p], .int .i64 (p + 1 : Nat), .int .i64 0]) (by simp [results, Tryd.results57, go_sem, *]) rfl ⟨rfl, ?_⟩
  exact ((((Hal.out.trans (Hb.out.mono (by simp))).setCell (p := ⟨w.heap.size, 0, none⟩) (Nat.le_refl _) _).setCell (p := ⟨w.heap.size, 1, none⟩) (Nat.le_refl _) _).setCell (p := ⟨w.heap.size, 2, none⟩) (Nat.le_refl _) _).setCell (p := ⟨w.heap.size, 3, none⟩) (Nat.le_refl _) _
set_option maxRecDepth 100000 in
set_option maxHeartbeats 4000000 in
theorem lxToken_stop1 (s : ByteArray) (hs : s.size ≤ 1000000) (p : Nat) (h46 : s.data.toList[p]? = some 46) (d : UInt8) (hd : s.data.toList[p + 1]? = some d) (hbl : blankB d = true) (w : World) : Calls Tryd.prog 57 #[.string s, .int .i64 p] w (RetTk w 6 (s.extract p (p + 1)) 0 p (p + 1)) := by
  have h := h46
  have hp := get_lt h
  have hy := get_eq h hp
  obtain ⟨v, hv⟩ : ∃ v : Int, ((46 : UInt8).toNat : Int) = v := ⟨_, rfl⟩
  have hvi : (s[p].toNat : Int) = v := by rw [hy]; exact hv
  have hSm := fun w => lxSmall_any 46 v hv w
  rw [show lowB 46 = false from by decide] at hSm
  have HSm := Lib.hid hSm
  clear hSm
  have hGr := fun w => lxGreat_any 46 v hv w
  rw [show greatB 46 = false from by decide] at hGr
  have HGr := Lib.hid hGr
  clear hGr
  have hDi := fun w => lxDigit_any 46 v hv w
  rw [show digB 46 = false from by decide] at hDi
  have HDi := Lib.hid hDi
  clear hDi
  have hin := fun w => lxIn_any ⟨#[40, 41, 91, 93, 44, 124]⟩ (by decide) 46 v hv w
  rw [show ((⟨#[40, 41, 91, 93, 44, 124]⟩ : ByteArray).data.toList.any fun d => d == (46 : UInt8)) = false from by decide] at hin
  obtain rfl : v = 46 := hv.symm
  have hsh := fun w => lxShort_any s hs p (p + 1) 6 (by omega) (by omega) (by omega) w
  have Hin := Lib.hid hin
  have Hsh := Lib.hid hsh
  have hp1 := get_lt hd
  have hy1 := get_eq hd hp1
  have t1 : ((p : Int) + 1 == (s.size : Int)) = false := by rw [← Bool.not_eq_true, beq_iff_eq]; omega
  obtain ⟨u, hu⟩ : ∃ v : Int, (d.toNat : Int) = v := ⟨_, rfl⟩
  have hui : (s[p + 1].toNat : Int) = u := by rw [hy1]; exact hu
  have hblk := fun w => lxBlank_any d u hu w
  rw [hbl] at hblk
  have Hblk := Lib.hid hblk
  clear hin hsh hy hv h h46 hy1 hu hd hbl hblk
  have hx0 := Lib.hid (show (w.alloc (.cells #[.int .i64 0, .string ⟨#[]⟩, .int .i64 0, .int .i64 0] 60)).heap[w.heap.size]? = some (.cells #[.int .i64 0, .string ⟨#[]⟩, .int .i64 0, .int .i64 0] 60 (0, 0)) from alloc_at rfl)
  have Hal := Lib.hid (show Below w.heap.size w (w.alloc (.cells #[.int .i64 0, .string ⟨#[]⟩, .int .i64 0, .int .i64 0] 60)) from (Below.refl _ _).alloc (Nat.le_refl _) _)
  go_enter Tryd.func57, Tryd.ntmps57
  go_wp2_with (first
    | (go_at_call 71; refine (HSm.out _).mono ?_; rintro e w1 ⟨rfl, rfl⟩)
    | (go_at_call 74; refine (HGr.out _).mono ?_; rintro e w1 ⟨rfl, rfl⟩)
    | (go_at_call 75; refine (HDi.out _).mono ?_; rintro e w1 ⟨rfl, rfl⟩)
    | (go_at_call 78; refine (Hin.out _).mono ?_; rintro e w1 ⟨rfl, rfl⟩)
    | (go_at_call 70; refine (Hblk.out _).mono ?_; rintro e w1 ⟨rfl, rfl⟩)
    | (go_at_call 72; refine (Hsh.out _).mono ?_; rintro e w1 ⟨rfl, hb⟩; have hx := (hb.block w.heap.size (by simp)).trans hx0.out; have x0 := cells_of hx 0; have x1 := cells_of hx 1; have x2 := cells_of hx 2; have x3 := cells_of hx 3; have y0 := frozenOf hx 0; have y1 := frozenOf hx 1; have y2 := frozenOf hx 2; have y3 := frozenOf hx 3; have xl := block_lt hx; simp at x0 x1 x2 x3; have Hb := Lib.hid hb))
  refine bodyPost_ret (v := .tuple #[.agg #[.int .i64 6, .string (s.extract p (p + 1)), .int .i64 0, .int .i64 p], .int .i64 (p + 1 : Nat), .int .i64 0]) (by simp [results, Tryd.results57, go_sem, *]) rfl ⟨rfl, ?_⟩
  exact ((((Hal.out.trans (Hb.out.mono (by simp))).setCell (p := ⟨w.heap.size, 0, none⟩) (Nat.le_refl _) _).setCell (p := ⟨w.heap.size, 1, none⟩) (Nat.le_refl _) _).setCell (p := ⟨w.heap.size, 2, none⟩) (Nat.le_refl _) _).setCell (p := ⟨w.heap.size, 3, none⟩) (Nat.le_refl _) _
theorem lxToken_any {s : ByteArray} {p : Nat} {k : Int} {tx : ByteArray} {n : Int} {q : Nat} (h : TokP s p k tx n q) (hs : s.size ≤ 1000000) (w : World) : Calls Tryd.prog 57 #[.string s, .int .i64 p] w (RetTk w k tx n p q) := by
  cases h with
  | name c h hc hq => exact lxToken_name s hs p c h hc hq w
  | var c h hc => exact lxToken_var s hs p c h hc w
  | num c h hc hv => exact lxToken_num s hs p c h hc hv w
  | quo _ h => exact lxToken_quo s hs p _ h w
  | punct c h hc => exact lxToken_punct s hs p c h hc w
  | stop h hn =>
    rcases hn with hn | ⟨d, hd, hb⟩
    · exact lxToken_stop0 s hs p h hn w
    · exact lxToken_stop1 s hs p h d hd hb w
  | sym c h hc h46 hq => exact lxToken_sym s hs p c h hc h46 hq w
end Go.Proofs.YtekdcmplcjgonaaDoor
