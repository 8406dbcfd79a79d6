/- The walks that count registers, and hold two codes against each other. -/
import Derived.Test.YtdeaeiolehglaaaM0
set_option linter.unusedVariables false
set_option linter.unusedSimpArgs false
namespace Go.Proofs.Ytdeaeiolehglaaa
open Go.RowKit

def okRegs (l : List In) : Prop := ∀ i ∈ l, 0 ≤ i.x ∧ i.x ≤ 1000000 ∧ 0 ≤ i.a ∧ i.a ≤ 1000000
theorem regs1_bound {n : Int} {i : In} (h : 0 ≤ n ∧ n ≤ 1000001) (hi : 0 ≤ i.x ∧ i.x ≤ 1000000 ∧ 0 ≤ i.a ∧ i.a ≤ 1000000) : 0 ≤ regs1 n i ∧ regs1 n i ≤ 1000001 := by
  unfold regs1
  split
  · omega
  · split
    · omega
    · split <;> omega

set_option maxRecDepth 100000 in
set_option maxHeartbeats 4000000 in
theorem cRegs_any (A : Option Addr) (n cap : Nat) (l : List In) (w : World) (h : IsK w A n cap l) (hn : n ≤ 100000) (hl : okRegs l) :
    Calls Try.prog 18 #[.slice A n cap] w (RetV w (.int .i64 (regsF 0 l))) := by
  go_enter Try.func18, Try.ntmps18
  go_wp2
  go_loopw [3, 8] (fun o i wr => ∃ (k : Nat) (m : Int), k ≤ n ∧ i = .int .i64 k ∧ o = .int .i64 m ∧ 0 ≤ m ∧ m ≤ 1000001 ∧ Hid (regsF m (l.drop k) = regsF 0 l) ∧ Below w.heap.size w wr) (fun _ i _ => n - (intOf i).toNat)
  case atStart => exact ⟨0, 0, Nat.zero_le _, rfl, rfl, by omega, by omega, Lib.hid rfl, Below.refl _ _⟩
  case round =>
    obtain ⟨k, m, hk, rfl, rfl, hm0, hm1, hres, hb⟩ := hrel
    by_cases hlt : k < n
    · obtain ⟨x, hxk⟩ := h.get hlt
      have hx := hl x (List.mem_of_getElem? hxk)
      obtain ⟨b, off, rfl, hbb, hwf, h0, h1, h2, h3, h4, h5⟩ := h.at' hxk
      have hd := drop_get hxk
      obtain ⟨hc, hf⟩ := bcell hb
      have g0 := (hc b _ hbb).trans h0
      have g1 := (hc b _ hbb).trans h1
      have g2 := (hc b _ hbb).trans h2
      have g3 := (hc b _ hbb).trans h3
      have g4 := (hc b _ hbb).trans h4
      have g5 := (hc b _ hbb).trans h5
      have hbr := Nat.lt_of_lt_of_le hbb hb.size
      have hcap := h.cap_le
      have Hd := Lib.hid hd
      have hbnd := regs1_bound ⟨hm0, hm1⟩ hx
      have Hbnd := Lib.hid hbnd
      obtain ⟨hx1, hx2, hx3, hx4⟩ := hx
      clear hd hxk hc hf h0 h1 h2 h3 h4 h5 hbnd
      go_wp2
      all_goals
        refine ⟨⟨k + 1, regs1 m x, by omega, by go_num, ?_, Hbnd.out.1, Hbnd.out.2, Lib.hid ?_, (by repeat (first | assumption | exact Below.refl _ _ | refine Below.drew ?_ | refine below_drewN ?_ _ | refine Below.alloc ?_ ?_ _ | refine Below.setCell ?_ ?_ _ | (apply Below.size; assumption) | (simp; done) | (simp; omega) | (have hz := hb.size; simp; omega) | (have hz := hb.size; omega) | omega))⟩, by simp [intOf]; omega⟩
        · congr 1
          clear Hd Hbnd hres hl h hb g0 g1 g2 g3 g4 g5 hwf
          simp only [beq_iff_eq, beq_eq_false_iff_ne, ne_eq] at *
          unfold regs1
          (simp only [*, if_true, if_false, or_true, true_or, or_self, or_false, false_or, Int.reduceEq]) <;> first | rfl | (simp only [Int.max_def]; repeat' split) <;> omega
        · have := hres.out
          rw [Hd.out] at this
          exact this
    · go_wp2
      go_ret
      exact ⟨ret_int (by have := hres.out; rw [drop_end h.len hlt] at this; simpa [regsF] using this), hb⟩

def usesF (op : Int) : Bool × Bool :=
  if op = 1 ∨ op = 2 then (true, true) else if op = 5 ∨ op = 6 ∨ op = 9 ∨ op = 10 then (true, false) else if op = 3 ∨ op = 4 ∨ op = 8 ∨ op = 12 then (false, true) else (false, false)
theorem uses_any (op : Int) (w : World) : Calls Try.prog 37 #[.int .i64 op] w fun e w' => e = .returned (.tuple #[.bool (usesF op).1, .bool (usesF op).2]) ∧ w = w' := by
  go_enter Try.func37, Try.ntmps37
  go_wp2
  all_goals go_ret2
  all_goals
    refine ⟨?_, rfl⟩
    simp only [beq_iff_eq, beq_eq_false_iff_ne, ne_eq] at *
    unfold usesF
    simp [*]
theorem regs1_uses (n : Int) (i : In) : regs1 n i = (let m := if (usesF i.op).1 = true ∧ n ≤ i.x then i.x + 1 else n; if (usesF i.op).2 = true ∧ m ≤ i.a then i.a + 1 else m) := by
  unfold regs1 usesF
  split
  · simp only [Int.max_def]; repeat' split <;> simp_all <;> omega
  · split
    · simp only [Int.max_def]; repeat' split <;> simp_all <;> omega
    · split
      · simp only [Int.max_def]; repeat' split <;> simp_all <;> omega
      · simp

set_option maxRecDepth 100000 in
set_option maxHeartbeats 4000000 in
theorem rRegs_any (A : Option Addr) (n cap : Nat) (l : List In) (w : World) (h : IsK w A n cap l) (hn : n ≤ 100000) (hl : okRegs l) :
    Calls Try.prog 19 #[.slice A n cap] w (RetV w (.int .i64 (regsF 0 l))) := by
  go_enter Try.func19, Try.ntmps19
  go_wp2
  go_loopw [3, 4] (fun o i wr => ∃ (k : Nat) (m : Int), k ≤ n ∧ i = .int .i64 k ∧ o = .int .i64 m ∧ 0 ≤ m ∧ m ≤ 1000001 ∧ Hid (regsF m (l.drop k) = regsF 0 l) ∧ Below w.heap.size w wr) (fun _ i _ => n - (intOf i).toNat)
  case atStart => exact ⟨0, 0, Nat.zero_le _, rfl, rfl, by omega, by omega, Lib.hid rfl, Below.refl _ _⟩
  case round =>
    obtain ⟨k, m, hk, rfl, rfl, hm0, hm1, hres, hb⟩ := hrel
    by_cases hlt : k < n
    · obtain ⟨x, hxk⟩ := h.get hlt
      have hx := hl x (List.mem_of_getElem? hxk)
      obtain ⟨b, off, rfl, hbb, hwf, h0, h1, h2, h3, h4, h5⟩ := h.at' hxk
      have hd := drop_get hxk
      obtain ⟨hc, hf⟩ := bcell hb
      have g0 := (hc b _ hbb).trans h0
      have g1 := (hc b _ hbb).trans h1
      have g2 := (hc b _ hbb).trans h2
      have hbr := Nat.lt_of_lt_of_le hbb hb.size
      have hcap := h.cap_le
      have Hd := Lib.hid hd
      have hbnd := regs1_bound ⟨hm0, hm1⟩ hx
      have Hbnd := Lib.hid hbnd
      obtain ⟨hx1, hx2, hx3, hx4⟩ := hx
      have hu := uses_any x.op wr
      have hru := regs1_uses m x
      clear hd hxk hc hf h0 h1 h2 h3 h4 h5 hbnd
      generalize hu1 : (usesF x.op).1 = u1 at hu hru
      generalize hu2 : (usesF x.op).2 = u2 at hu hru
      have Hu := Lib.hid hu
      have Hru := Lib.hid hru
      clear hu hru hu1 hu2
      cases u1 <;> cases u2
      all_goals
        go_wp2_with (first | (go_at_call 37; go_must (refine Hu.out.mono ?_); rintro e w1 ⟨rfl, rfl⟩))
      all_goals
        refine ⟨⟨k + 1, regs1 m x, by omega, by go_num, ?_, Hbnd.out.1, Hbnd.out.2, Lib.hid ?_, (by repeat (first | assumption | exact Below.refl _ _ | refine Below.drew ?_ | refine below_drewN ?_ _ | refine Below.alloc ?_ ?_ _ | refine Below.setCell ?_ ?_ _ | (apply Below.size; assumption) | (simp; done) | (simp; omega) | (have hz := hb.size; simp; omega) | (have hz := hb.size; omega) | omega))⟩, by simp [intOf]; omega⟩
      all_goals first
        | (have := hres.out; rw [Hd.out] at this; exact this)
        | (congr 1
           have hru := Hru.out
           clear Hd Hbnd hres hl h hb g0 g1 g2 hwf Hu Hru
           rw [hru]
           (simp only [Bool.false_eq_true, false_and, if_false, true_and]) <;> ((repeat' split) <;> omega))
    · go_wp2
      go_ret
      exact ⟨ret_int (by have := hres.out; rw [drop_end h.len hlt] at this; simpa [regsF] using this), hb⟩

/-! ### two codes -/
def In.beq (a b : In) : Bool := a.op == b.op && (a.x == b.x && (a.a == b.a && (a.name.toList == b.name.toList && (a.n == b.n && a.neg == b.neg))))
theorem In.beq_iff (a b : In) : a.beq b = true ↔ a = b := by
  obtain ⟨o, x, a, s, n, g⟩ := a
  obtain ⟨o', x', a', s', n', g'⟩ := b
  simp only [In.beq, Bool.and_eq_true, beq_iff_eq, In.mk.injEq]
  constructor
  · rintro ⟨h1, h2, h3, h4, h5, h6⟩
    refine ⟨h1, h2, h3, ?_, h5, h6⟩
    rw [ByteArray.toList_eq, ByteArray.toList_eq] at h4
    obtain ⟨⟨x⟩⟩ := s
    obtain ⟨⟨y⟩⟩ := s'
    simp at h4
    rw [h4]
  · rintro ⟨rfl, rfl, rfl, rfl, rfl, rfl⟩
    exact ⟨rfl, rfl, rfl, rfl, rfl, rfl⟩
def sameIn : List In → List In → Bool
  | [], [] => true
  | a :: as_, b :: bs => a.beq b && sameIn as_ bs
  | _, _ => false
theorem sameIn_iff : ∀ a b : List In, sameIn a b = true ↔ a = b
  | [], [] => by simp [sameIn]
  | [], b :: bs => by simp [sameIn]
  | a :: as_, [] => by simp [sameIn]
  | a :: as_, b :: bs => by simp [sameIn, In.beq_iff, sameIn_iff as_ bs]
theorem sameIn_len {a b : List In} (h : a.length ≠ b.length) : sameIn a b = false := by
  rw [← Bool.not_eq_true, sameIn_iff]
  rintro rfl
  exact h rfl
end Go.Proofs.Ytdeaeiolehglaaa
