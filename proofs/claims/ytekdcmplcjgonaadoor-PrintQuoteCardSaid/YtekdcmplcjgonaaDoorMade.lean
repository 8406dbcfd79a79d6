/- The walk that makes a name of any text. -/
import Derived.Deep.CutBlock
import Derived.Test.YtekdcmplcjgonaaDoorB4
import Derived.Test.YtekdcmplcjgonaaDoorB0
import Derived.Test.YtekdcmplcjgonaaDoorB2
set_option linter.unusedVariables false
set_option linter.unusedSimpArgs false
namespace Go.Proofs.YtekdcmplcjgonaaDoor
open Go.RowKit

/-- a name that a term may have comes back -/
def RetN (w : World) (e : Ending) (w' : World) : Prop := ∃ s : ByteArray, e = .returned (.string s) ∧ okName s = true ∧ Below w.heap.size w w'
theorem ok_of_list {l : List UInt8} (h1 : ∀ x ∈ l, oddB x = false) (h2 : 1 ≤ l.length) (h3 : l.length ≤ 12) : okName ⟨l.toArray⟩ = true := by
  unfold okName
  rw [show (⟨l.toArray⟩ : ByteArray).size = l.length from rfl]
  simp only [Bool.and_eq_true, Bool.not_eq_true', decide_eq_true_eq]
  refine ⟨?_, h2, h3⟩
  rw [← Bool.not_eq_true, List.any_eq_true]
  rintro ⟨x, hx, ho⟩
  have := h1 x (by simpa using hx)
  rw [this] at ho
  cases ho
theorem bytes_snoc (l : List UInt8) (y : UInt8) (z : Int) (h : (y.toNat : Int) = z) : Lib.byteCells (l ++ [y]) = Lib.byteCells l ++ [.int .u8 z] := by rw [← h]; simp [Lib.byteCells]
theorem bytes_string {w : World} {A : Option Addr} {k c : Nat} {l : List UInt8} (h : Sl w 1 A k c (Lib.byteCells l)) (hk : 0 < k) : (convert 70 9 (.slice A k c)).run Tryd.prog w = .ok (.string ⟨l.toArray⟩) w := by
  have hl : l.length = k := by have := h.len; rw [Lib.byteCells_length] at this; omega
  obtain ⟨b, off, rfl, _, hc⟩ := h.cells hk
  rw [← hl]
  refine run_convert_bytes_back (P := Tryd.prog) w 70 9 5 ⟨b, off, none⟩ c l Tryd.underlying70 Tryd.underlying5 Tryd.underlying9 fun j hj => ?_
  have := hc j (.int .u8 l[j].toNat) (by simp [Lib.byteCells, hj])
  have e : (⟨b, off, none⟩ : Addr).add j = ⟨b, off + j, none⟩ := by unfold Addr.add; split <;> simp_all
  rw [e]
  exact this
set_option maxRecDepth 100000 in
set_option maxHeartbeats 4000000 in
theorem rname6_any (s : ByteArray) (hs : s.size ≤ maxLen) (w : World) : Calls Tryd.prog 37 #[.string s] w (RetN w) := by
  go_enter Tryd.func37, Tryd.ntmps37
  go_wp2
  go_loopw [3, 4] (fun bv iv wr => ∃ (k c : Nat) (A : Option Addr) (l : List UInt8), iv = .int .i64 k ∧ bv = .slice A k c ∧ l.length = k ∧ k ≤ s.size ∧ k ≤ 12 ∧ Own0 wr w.heap.size 5 1 (.slice A k c) k (Lib.byteCells l) ∧ Hid (∀ x ∈ l, oddB x = false) ∧ Below w.heap.size w wr) (fun _ iv _ => s.size - (intOf iv).toNat)
  case atStart => exact ⟨0, 0, _, [], rfl, rfl, rfl, Nat.zero_le _, Nat.zero_le _, .inl ⟨_, rfl, rfl, rfl⟩, Lib.hid (by simp), (Below.refl _ _).alloc (Nat.le_refl _) _⟩
  case round =>
    obtain ⟨k, c, A, l, rfl, rfl, hl, hk1, hk2, hown, hodd, hb⟩ := hrel
    by_cases h1 : k < s.size
    · by_cases h2 : k < 12
      · have t1 : decide ((k : Int) < (s.size : Int)) = true := decide_eq_true (by omega)
        have t2 : decide ((k : Int) < 12) = true := decide_eq_true (by omega)
        go_upto_region 6 with fail
        have hx := s[k].toNat_lt
        generalize hzz : (32 + (s[k].toNat : Int) % 95) = z
        have hz1 : 32 ≤ z ∧ z ≤ 126 := by omega
        obtain ⟨y, hy⟩ : ∃ y : UInt8, (y.toNat : Int) = z := ⟨UInt8.ofNat z.toNat, by simp; omega⟩
        clear hzz hx
        have hcap0 : 0 ≤ k := Nat.zero_le _
        by_cases h39 : z = 39
        · have hz2 : (z == 39) = true := by simpa using h39
          clear h39
          go_upto_region 4 with (at_builtin; go_must (refine wpList_append_own0 rfl (.tmp 24) (.tmp 26) 70 rfl w.heap.size 5 Tryd.underlying70 infoByte rfl (by omega) rfl (hown.below ((Below.refl _ _).alloc (Nat.le_refl _) _)) rfl (Sl.lit _ _ [_] 5 1 1 (by first | rfl | simp) rfl (by simp [maxLen])) (one1 rfl) (by omega) (by omega) (by omega) (by have := hb.size; simp; omega) ?_); intro A' cap' w2 hown1 hb2)
          have hb3 : Below w.heap.size w w2 := (hb.alloc hb.size _).trans hb2
          rw [← bytes_snoc l 120 120 rfl] at hown1
          have hodd2 : ∀ x ∈ l ++ [120], oddB x = false := fun x hx => by
            rcases List.mem_append.1 hx with h | h
            · exact hodd.out x h
            · rw [List.mem_singleton.1 h]; exact (by decide)
          have Hodd2 := Lib.hid hodd2
          clear hodd hodd2 hown hb hb2
          go_wp2
          go_roundw
          case rel => exact ⟨k + 1, cap', A', l ++ [120], by go_num, rfl, by simp [hl], by omega, by omega, .inr hown1, Hodd2, hb3⟩
          case measure => simp [intOf]; omega
        · have hz2 : (z == 39) = false := by simpa using h39
          go_upto_region 4 with (at_builtin; go_must (refine wpList_append_own0 rfl (.tmp 24) (.tmp 26) 70 rfl w.heap.size 5 Tryd.underlying70 infoByte rfl (by omega) rfl (hown.below ((Below.refl _ _).alloc (Nat.le_refl _) _)) rfl (Sl.lit _ _ [_] 5 1 1 (by first | rfl | simp) rfl (by simp [maxLen])) (one1 rfl) (by omega) (by omega) (by omega) (by have := hb.size; simp; omega) ?_); intro A' cap' w2 hown1 hb2)
          have hb3 : Below w.heap.size w w2 := (hb.alloc hb.size _).trans hb2
          rw [← bytes_snoc l y _ hy] at hown1
          have hodd2 : ∀ x ∈ l ++ [y], oddB x = false := fun x hx => by
            rcases List.mem_append.1 hx with h | h
            · exact hodd.out x h
            · rw [List.mem_singleton.1 h]; exact (oddB_no (by omega) (by omega) (by omega))
          have Hodd2 := Lib.hid hodd2
          clear hodd hodd2 hown hb hb2
          go_wp2
          go_roundw
          case rel => exact ⟨k + 1, cap', A', l ++ [y], by go_num, rfl, by simp [hl], by omega, by omega, .inr hown1, Hodd2, hb3⟩
          case measure => simp [intOf]; omega
      · have t1 : decide ((k : Int) < (s.size : Int)) = true := decide_eq_true (by omega)
        have t2 : decide ((k : Int) < 12) = false := decide_eq_false (by omega)
        have hconv := fun (h : 0 < k) => bytes_string (hown.sl (by omega)) h
        have hok := fun (h : 0 < k) => ok_of_list hodd.out (by omega) (by omega)
        have Hok := Lib.hid hok
        have Hb := Lib.hid hb
        clear hok hb hodd hown
        rcases Nat.eq_zero_or_pos k with h0 | h0
        · have hz : ((k : Int) == 0) = true := by simp; omega
          clear hconv h0
          go_wp2
          go_ret
          exact ⟨_, rfl, by decide, Hb.out⟩
        · have hz : ((k : Int) == 0) = false := by simp; omega
          have hc := hconv h0
          clear hconv
          go_wp2
          go_ret
          exact ⟨_, rfl, Hok.out h0, Hb.out⟩
    · have t1 : decide ((k : Int) < (s.size : Int)) = false := decide_eq_false (by omega)
      have hconv := fun (h : 0 < k) => bytes_string (hown.sl (by omega)) h
      have hok := fun (h : 0 < k) => ok_of_list hodd.out (by omega) (by omega)
      have Hok := Lib.hid hok
      have Hb := Lib.hid hb
      clear hok hb hodd hown
      rcases Nat.eq_zero_or_pos k with h0 | h0
      · have hz : ((k : Int) == 0) = true := by simp; omega
        clear hconv h0
        go_wp2
        go_ret
        exact ⟨_, rfl, by decide, Hb.out⟩
      · have hz : ((k : Int) == 0) = false := by simp; omega
        have hc := hconv h0
        clear hconv
        go_wp2
        go_ret
        exact ⟨_, rfl, Hok.out h0, Hb.out⟩
set_option maxHeartbeats 1000000 in
theorem rpName_any (s : ByteArray) (hs : s.size ≤ maxLen) (w : World) : Calls Tryd.prog 16 #[.string s] w (RetN w) := by
  have h := fun w => rname6_any s hs w
  have H := Lib.hid h
  clear h
  go_enter Tryd.func16, Tryd.ntmps16
  go_wp2_with (go_at_call 37; refine (H.out _).mono ?_; rintro e w1 ⟨t, rfl, ht, hb⟩)
  go_ret
  exact ⟨t, rfl, ht, hb⟩
end Go.Proofs.YtekdcmplcjgonaaDoor
