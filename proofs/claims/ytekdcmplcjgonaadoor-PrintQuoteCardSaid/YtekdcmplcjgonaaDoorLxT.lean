/- The walks that tell one token. -/
import Derived.Test.YtekdcmplcjgonaaDoorLxR
import Derived.Test.YtekdcmplcjgonaaDoorLP3
set_option linter.unusedVariables false
set_option linter.unusedSimpArgs false
namespace Go.Proofs.YtekdcmplcjgonaaDoor
open Go.RowKit

/-- a token, and where it begins -/
structure Tk where
  kind : Int
  text : ByteArray
  n : Int
  pos : Nat
@[reducible] def Tk.flat (t : Tk) : List Value := [.int .i64 t.kind, .string t.text, .int .i64 t.n, .int .i64 t.pos]
def RetTk (w : World) (k : Int) (tx : ByteArray) (n : Int) (p q : Nat) (e : Ending) (w' : World) : Prop := e = .returned (.tuple #[.agg #[.int .i64 k, .string tx, .int .i64 n, .int .i64 p], .int .i64 q, .int .i64 0]) ∧ Below w.heap.size w w'
set_option maxHeartbeats 1000000 in
theorem lxShort_any (s : ByteArray) (hs : s.size ≤ 1000000) (p q : Nat) (k : Int) (h1 : p ≤ q) (h2 : q ≤ s.size) (h3 : q ≤ p + 12) (w : World) : Calls Tryd.prog 72 #[.string s, .int .i64 p, .int .i64 q, .int .i64 k] w (RetTk w k (s.extract p q) 0 p q) := by
  have t1 : decide ((12 : Int) < (q : Int) - (p : Int)) = false := decide_eq_false (by omega)
  go_enter Tryd.func72, Tryd.ntmps72
  go_wp2
  exact bodyPost_ret (v := .tuple #[.agg #[.int .i64 k, .string (s.extract p q), .int .i64 0, .int .i64 p], .int .i64 q, .int .i64 0]) (by simp [results, Tryd.results72, go_sem]) rfl ⟨rfl, by repeat (first | exact Below.refl _ _ | refine Below.setCell ?_ (by simp) _ | refine Below.alloc ?_ (by simp) _)⟩
theorem valD_append (a b : List UInt8) : valD (a ++ b) = b.foldl (fun n c => n * 10 + (c.toNat - 48)) (valD a) := by simp [valD]
theorem valD_mono : ∀ (b : List UInt8) (n : Nat), n ≤ b.foldl (fun n c => n * 10 + (c.toNat - 48)) n
  | [], n => Nat.le_refl _
  | c :: b, n => by
    rw [List.foldl_cons]
    exact Nat.le_trans (by omega) (valD_mono b (n * 10 + (c.toNat - 48)))
theorem drop_take_snoc (s : ByteArray) (p i : Nat) (h1 : p ≤ i) (h2 : i < s.size) : (s.data.toList.drop p).take (i + 1 - p) = (s.data.toList.drop p).take (i - p) ++ [s[i]] := by
  rw [show i + 1 - p = (i - p) + 1 by omega, List.take_succ_eq_append_getElem (by simp; omega)]
  congr 2
  simp [show p + (i - p) = i by omega]
  rfl
theorem run_take {p : UInt8 → Bool} (s : ByteArray) (k : Nat) (hk : k ≤ s.size) : endF p s k ≤ s.size ∧ (s.data.toList.drop k).take (endF p s k - k) = (s.data.toList.drop k).takeWhile p ∧ ∀ i, k ≤ i → (h : i < endF p s k) → ∀ c, s.data.toList[i]? = some c → p c = true := by
  have hl : ((s.data.toList.drop k).takeWhile p).length ≤ s.size - k := by
    have := (List.takeWhile_prefix p (l := s.data.toList.drop k)).length_le
    simp at this
    exact this
  have ht : (s.data.toList.drop k).take (endF p s k - k) = (s.data.toList.drop k).takeWhile p := by
    unfold endF
    rw [Nat.add_sub_cancel_left]
    exact (List.prefix_iff_eq_take.1 (List.takeWhile_prefix p)).symm
  refine ⟨by unfold endF; omega, ht, fun i h1 h2 c hc => ?_⟩
  have hm : c ∈ (s.data.toList.drop k).takeWhile p := by
    rw [← ht]
    refine List.mem_of_getElem? (i := i - k) ?_
    rw [List.getElem?_take, if_pos (by omega), List.getElem?_drop, show k + (i - k) = i by omega]
    exact hc
  exact List.all_eq_true.1 List.all_takeWhile c hm
set_option maxRecDepth 100000 in
set_option maxHeartbeats 2000000 in
theorem lxNumber_any (s : ByteArray) (hs : s.size ≤ 1000000) (p : Nat) (hp : p ≤ s.size) (hv : valD ((s.data.toList.drop p).takeWhile digB) ≤ 2147483647) (w : World) :
    Calls Tryd.prog 76 #[.string s, .int .i64 p] w (RetTk w 3 (s.extract p (endF digB s p)) (valD ((s.data.toList.drop p).takeWhile digB)) p (endF digB s p)) := by
  obtain ⟨r1, r2, r3⟩ := run_take (p := digB) s p hp
  have hrow := fun w => lxRowD_any s hs p hp w
  have hge : p ≤ endF digB s p := by unfold endF; omega
  rw [← r2] at hv ⊢
  obtain ⟨q, hq⟩ : ∃ q, endF digB s p = q := ⟨_, rfl⟩
  rw [hq] at r1 r3 hrow hge hv ⊢
  have Hrow := Lib.hid hrow
  have R3 := Lib.hid r3
  have Hv := Lib.hid hv
  clear r2 hq hrow r3 hv
  have hle : ∀ i, p ≤ i → i ≤ q → valD ((s.data.toList.drop p).take (i - p)) ≤ 2147483647 := fun i h1 h2 => by
    refine Nat.le_trans ?_ Hv.out
    have e : (s.data.toList.drop p).take (q - p) = (s.data.toList.drop p).take (i - p) ++ ((s.data.toList.drop p).take (q - p)).drop (i - p) := by
      have := List.take_append_drop (i - p) ((s.data.toList.drop p).take (q - p))
      rw [List.take_take, Nat.min_eq_left (by omega)] at this
      exact this.symm
    rw [e, valD_append]
    exact valD_mono _ _
  have Hle := Lib.hid hle
  clear hle
  go_enter Tryd.func76, Tryd.ntmps76
  go_wp2_with (go_at_call 73; refine (Hrow.out _).mono ?_; rintro e w1 ⟨rfl, rfl⟩)
  go_loopw [8, 9] (fun nv iv wx => ∃ i : Nat, iv = .int .i64 i ∧ nv = .int .i64 (valD ((s.data.toList.drop p).take (i - p))) ∧ p ≤ i ∧ i ≤ q ∧ Below w.heap.size w wx ∧ wx.heap[w.heap.size]? = some (.cells #[.int .i64 0, .string ⟨#[]⟩, .int .i64 0, .int .i64 0] 60 (0, 0))) (fun _ iv _ => q - (intOf iv).toNat)
  case atStart => exact ⟨p, rfl, by simp [valD], Nat.le_refl _, hge, (Below.refl _ _).alloc (Nat.le_refl _) _, alloc_at rfl⟩
  case round =>
    obtain ⟨i, rfl, rfl, h1, h2, hb, hx⟩ := hrel
    have hwz := hb.size
    have hv1 := Hle.out i h1 h2
    by_cases hlt : i < q
    · have hi : i < s.size := by omega
      obtain ⟨y, hy⟩ : ∃ y, s[i] = y := ⟨_, rfl⟩
      have hg := str_get s hi
      rw [hy] at hg
      have hd := R3.out i h1 hlt y hg
      obtain ⟨v, hv⟩ : ∃ v : Int, (y.toNat : Int) = v := ⟨_, rfl⟩
      have hvi : (s[i].toNat : Int) = v := by rw [hy]; exact hv
      rw [dig_z hv] at hd
      simp only [Bool.and_eq_true, decide_eq_true_eq] at hd
      obtain ⟨d1, d2⟩ := hd
      have hsn := congrArg valD (drop_take_snoc s p i h1 hi)
      rw [valD_snoc, hy] at hsn
      have hv2 := Hle.out (i + 1) (by omega) (by omega)
      obtain ⟨N, hN⟩ : ∃ N, valD ((s.data.toList.drop p).take (i - p)) = N := ⟨_, rfl⟩
      obtain ⟨N2, hN2⟩ : ∃ N, valD ((s.data.toList.drop p).take (i + 1 - p)) = N := ⟨_, rfl⟩
      rw [hN] at hsn hv1 ⊢
      rw [hN2] at hsn hv2
      have hsum : (N : Int) * 10 + (v - 48) = (N2 : Int) := by omega
      have hN2' : decide ((2147483647 : Int) < (N2 : Int)) = false := decide_eq_false (by omega)
      have Hsum := Lib.hid hsum
      have HN2 := Lib.hid hN2
      have Hx := Lib.hid hx
      have Hb := Lib.hid hb
      clear hg hsn hN hy hv hsum hN2 hx hb
      go_upto_region 7 with fail
      rw [Hsum.out]
      clear hvi
      go_wp2
      go_roundw
      case rel => exact ⟨i + 1, by go_num, by rw [HN2.out], by omega, by omega, Hb.out, Hx.out⟩
      case measure => simp [intOf]; omega
    · obtain rfl : i = q := by omega
      obtain ⟨N, hN⟩ : ∃ N, valD ((s.data.toList.drop p).take (i - p)) = N := ⟨_, rfl⟩
      rw [hN] at hv1 ⊢
      have HN := Lib.hid hN
      have x0 := cells_of hx 0
      have x1 := cells_of hx 1
      have x2 := cells_of hx 2
      have x3 := cells_of hx 3
      have y0 := frozenOf hx 0
      have y1 := frozenOf hx 1
      have y2 := frozenOf hx 2
      have y3 := frozenOf hx 3
      have xl := block_lt hx
      simp at x0 x1 x2 x3
      have Hb := Lib.hid hb
      have Hx := Lib.hid hx
      clear hx hb hN
      go_wp2
      refine bodyPost_ret (v := .tuple #[.agg #[.int .i64 3, .string (s.extract p i), .int .i64 N, .int .i64 p], .int .i64 i, .int .i64 0]) (by simp [results, Tryd.results76, go_sem, *]) rfl ⟨by rw [HN.out], ?_⟩
      exact ((((Hb.out.setCell (p := ⟨w.heap.size, 0, none⟩) (Nat.le_refl _) _).setCell (p := ⟨w.heap.size, 1, none⟩) (Nat.le_refl _) _).setCell (p := ⟨w.heap.size, 2, none⟩) (Nat.le_refl _) _).setCell (p := ⟨w.heap.size, 3, none⟩) (Nat.le_refl _) _)
/-- a name in quotes at a place -/
structure QuoP (s : ByteArray) (p : Nat) (nm : ByteArray) : Prop where
  ok : okName nm = true
  here : (s.data.toList.drop p).take (nm.size + 2) = 39 :: (bytesOf nm ++ [39])
theorem QuoP.size {s : ByteArray} {p : Nat} {nm : ByteArray} (h : QuoP s p nm) : p + nm.size + 2 ≤ s.size := by
  have := congrArg List.length h.here
  have e : (bytesOf nm).length = nm.size := by unfold bytesOf; simp
  rw [List.length_take, List.length_drop, List.length_cons, List.length_append, e] at this
  simp at this
  omega
theorem QuoP.inner {s : ByteArray} {p : Nat} {nm : ByteArray} (h : QuoP s p nm) {j : Nat} (hj : j < nm.size) : s.data.toList[p + 1 + j]? = (bytesOf nm)[j]? := by
  have e : (bytesOf nm).length = nm.size := by unfold bytesOf; simp
  have := congrArg (fun l : List UInt8 => l[1 + j]?) h.here
  simp only [List.getElem?_take, List.getElem?_drop] at this
  rw [if_pos (by omega)] at this
  rw [show p + 1 + j = p + (1 + j) by omega, this, show 1 + j = j + 1 by omega, List.getElem?_cons_succ, List.getElem?_append_left (by omega)]
theorem QuoP.last {s : ByteArray} {p : Nat} {nm : ByteArray} (h : QuoP s p nm) : s.data.toList[p + 1 + nm.size]? = some 39 := by
  have e : (bytesOf nm).length = nm.size := by unfold bytesOf; simp
  have := congrArg (fun l : List UInt8 => l[1 + nm.size]?) h.here
  simp only [List.getElem?_take, List.getElem?_drop] at this
  rw [if_pos (by omega)] at this
  rw [show p + 1 + nm.size = p + (1 + nm.size) by omega, this, show 1 + nm.size = nm.size + 1 by omega, List.getElem?_cons_succ, ← e]
  simp
theorem QuoP.text {s : ByteArray} {p : Nat} {nm : ByteArray} (h : QuoP s p nm) : s.extract (p + 1) (p + 1 + nm.size) = nm := by
  have e : (bytesOf nm).length = nm.size := by unfold bytesOf; simp
  have h2 := congrArg (fun l : List UInt8 => (l.drop 1).take nm.size) h.here
  simp only [List.drop_take, List.drop_drop, List.take_take] at h2
  rw [show min nm.size (nm.size + 2 - 1) = nm.size by omega, List.drop_succ_cons, List.drop_zero, ← e, List.take_left] at h2
  apply ByteArray.ext
  apply Array.toList_inj.1
  have e2 : (s.extract (p + 1) (p + 1 + nm.size)).data.toList = (s.data.toList.drop (p + 1)).take nm.size := by
    simp [ByteArray.data_extract]
  rw [e2]
  rw [e] at h2
  exact h2
theorem name_vis {nm : ByteArray} (h : okName nm = true) {j : Nat} {c : UInt8} (hc : (bytesOf nm)[j]? = some c) : 32 ≤ c.toNat ∧ c.toNat ≤ 126 ∧ c ≠ 39 := by
  have hm := List.mem_of_getElem? hc
  have h39 := name_no39 h c hm
  unfold okName at h
  rw [Bool.and_eq_true, Bool.not_eq_true', ← Bool.not_eq_true, List.any_eq_true] at h
  have h1 : oddB c = false := by
    cases ho : oddB c with
    | false => rfl
    | true => exact absurd ⟨c, hm, ho⟩ h.1
  unfold oddB at h1
  simp at h1
  rw [bne_iff_ne] at h39
  exact ⟨by omega, by omega, h39⟩
set_option maxRecDepth 100000 in
set_option maxHeartbeats 2000000 in
theorem lxQuoted_any (s : ByteArray) (hs : s.size ≤ 1000000) (p : Nat) (nm : ByteArray) (h : QuoP s p nm) (w : World) : Calls Tryd.prog 77 #[.string s, .int .i64 p] w (RetTk w 1 nm 0 p (p + nm.size + 2)) := by
  have hsz := h.size
  have h12 := okName_le h.ok
  have h1 := okName_ge h.ok
  have Hq := Lib.hid h
  obtain ⟨L, hL⟩ : ∃ L, p + 1 + nm.size = L := ⟨_, rfl⟩
  have hL1 : p + 1 < L := by omega
  have hL2 : L < s.size := by omega
  have hL3 : L ≤ p + 13 := by omega
  have HL := Lib.hid hL
  clear h hL hsz h12 h1
  go_enter Tryd.func77, Tryd.ntmps77
  go_wp2
  go_loopw [7] (fun iv wx => ∃ i : Nat, iv = .int .i64 i ∧ p + 1 ≤ i ∧ i ≤ L ∧ Below w.heap.size w wx ∧ wx.heap[w.heap.size]? = some (.cells #[.int .i64 0, .string ⟨#[]⟩, .int .i64 0, .int .i64 0] 60 (0, 0))) (fun iv _ => s.size - (intOf iv).toNat)
  case atStart => exact ⟨p + 1, by go_num, Nat.le_refl _, by omega, (Below.refl _ _).alloc (Nat.le_refl _) _, alloc_at rfl⟩
  case round =>
    obtain ⟨i, rfl, hi1, hi2, hb, hx⟩ := hrel
    have hlt : i < s.size := by omega
    have hlt' : decide ((i : Int) < (s.size : Int)) = true := by simpa using hlt
    have t1 : decide ((i : Int) ≤ (p : Int) + 12 + 1) = true := decide_eq_true (by omega)
    have t2 : decide ((i : Int) ≤ (p : Int) + 13) = true := decide_eq_true (by omega)
    have hwz := hb.size
    obtain ⟨y, hy⟩ : ∃ y, s[i] = y := ⟨_, rfl⟩
    have hg := str_get s hlt
    rw [hy] at hg
    obtain ⟨v, hv⟩ : ∃ v : Int, (y.toNat : Int) = v := ⟨_, rfl⟩
    have hvi : (s[i].toNat : Int) = v := by rw [hy]; exact hv
    by_cases hin : i < L
    · have hc : (bytesOf nm)[i - (p + 1)]? = some y := by
        have := Hq.out.inner (j := i - (p + 1)) (by have := HL.out; omega)
        rw [show p + 1 + (i - (p + 1)) = i by omega, hg] at this
        exact this.symm
      obtain ⟨n1, n2, n3⟩ := name_vis Hq.out.ok hc
      have z1 : (v == 39) = false := by
        rw [← Bool.not_eq_true, beq_iff_eq]
        intro e
        exact n3 (UInt8.toNat_inj.1 (by have : (39 : UInt8).toNat = 39 := rfl; omega))
      have z2 : decide (v < 32) = false := decide_eq_false (by omega)
      have z3 : decide ((126 : Int) < v) = false := decide_eq_false (by omega)
      have Hx := Lib.hid hx
      have Hb := Lib.hid hb
      clear hx hb hg hy hv hc n1 n2 n3
      go_wp2
      all_goals
        go_roundw
        case rel => exact ⟨i + 1, by go_num, by omega, by omega, Hb.out, Hx.out⟩
        case measure => simp [intOf]; omega
    · obtain rfl : i = L := by omega
      have hl := Hq.out.last
      rw [HL.out, hg] at hl
      have hy39 : y = 39 := Option.some.inj hl
      have hv39 : v = 39 := by rw [← hv, hy39]; rfl
      have hvi2 : (s[i].toNat : Int) = 39 := by rw [hvi, hv39]
      have t3 : decide ((p : Int) + 1 < (i : Int)) = true := decide_eq_true (by omega)
      have htx : s.extract (p + 1) i = nm := by rw [← HL.out]; exact Hq.out.text
      have x0 := cells_of hx 0
      have x1 := cells_of hx 1
      have x2 := cells_of hx 2
      have x3 := cells_of hx 3
      have y0 := frozenOf hx 0
      have y1 := frozenOf hx 1
      have y2 := frozenOf hx 2
      have y3 := frozenOf hx 3
      have xl := block_lt hx
      simp at x0 x1 x2 x3
      have Hb := Lib.hid hb
      have Htx := Lib.hid htx
      clear hvi hx hb hg hy hv hl hy39 hv39 htx
      go_wp2
      refine bodyPost_ret (v := .tuple #[.agg #[.int .i64 1, .string (s.extract (p + 1) i), .int .i64 0, .int .i64 p], .int .i64 (i + 1 : Nat), .int .i64 0]) (by simp [results, Tryd.results77, go_sem, *]) rfl ⟨by rw [Htx.out, show i + 1 = p + nm.size + 2 by have := HL.out; omega], ?_⟩
      exact ((((Hb.out.setCell (p := ⟨w.heap.size, 0, none⟩) (Nat.le_refl _) _).setCell (p := ⟨w.heap.size, 1, none⟩) (Nat.le_refl _) _).setCell (p := ⟨w.heap.size, 2, none⟩) (Nat.le_refl _) _).setCell (p := ⟨w.heap.size, 3, none⟩) (Nat.le_refl _) _)
end Go.Proofs.YtekdcmplcjgonaaDoor
