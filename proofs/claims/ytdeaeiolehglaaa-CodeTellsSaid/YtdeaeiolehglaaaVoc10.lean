/- Words of memory for layer 10: rows of instructions, states, clauses. -/
import Derived.Test.YtdeaeiolehglaaaGen
import Derived.Test.YtdeaeiolehglaaaSpec10
import Derived.Test.YtdeaeiolehglaaaRows
set_option linter.unusedVariables false
set_option linter.unusedSimpArgs false
namespace Go.Proofs.Ytdeaeiolehglaaa
open Go.RowKit

structure In.wf (i : In) : Prop where
  op : i64 i.op
  x : i64 i.x
  a : i64 i.a
  n : i64 i.n
  name : i.name.size ≤ maxLen
@[reducible] def In.flat (i : In) : List Value := [.int .i64 i.op, .int .i64 i.x, .int .i64 i.a, .string i.name, .int .i64 i.n, .bool i.neg]
def In.val (i : In) : Value := .agg #[.int .i64 i.op, .int .i64 i.x, .int .i64 i.a, .string i.name, .int .i64 i.n, .bool i.neg]
def RIn : World → In → List Value → Prop := fun _ i v => v = i.flat ∧ i.wf
theorem keepsIn : Keeps RIn := fun _ _ _ _ h _ => h
theorem oneIn (i : In) : ∀ u ∈ i.flat, u.oneCell' = true := by
  intro u hu
  simp [In.flat] at hu
  rcases hu with rfl | rfl | rfl | rfl | rfl | rfl <;> rfl
abbrev IsK (w : World) (A : Option Addr) (n cap : Nat) (l : List In) : Prop := IsG RIn 6 w A n cap l
theorem IsK.at' {w : World} {A : Option Addr} {n cap : Nat} {l : List In} (h : IsK w A n cap l) {k : Nat} {i : In} (hk : l[k]? = some i) :
    ∃ b off, A = some ⟨b, off, none⟩ ∧ b < w.heap.size ∧ i.wf ∧ w.cell? ⟨b, off + k * 6, none⟩ = some (.int .i64 i.op) ∧ w.cell? ⟨b, off + k * 6 + 1, none⟩ = some (.int .i64 i.x) ∧ w.cell? ⟨b, off + k * 6 + 2, none⟩ = some (.int .i64 i.a) ∧
      w.cell? ⟨b, off + k * 6 + 3, none⟩ = some (.string i.name) ∧ w.cell? ⟨b, off + k * 6 + 4, none⟩ = some (.int .i64 i.n) ∧ w.cell? ⟨b, off + k * 6 + 5, none⟩ = some (.bool i.neg) := by
  obtain ⟨b, off, v, hA, hb, _, ⟨rfl, hw⟩, hc⟩ := h.at_ hk
  exact ⟨b, off, hA, hb, hw, hc 0 _ rfl, hc 1 _ rfl, hc 2 _ rfl, hc 3 _ rfl, hc 4 _ rfl, hc 5 _ rfl⟩

/-- an argument in the row: a term, and its register -/
def RArg : World → Tm × Int → List Value → Prop := fun w p v => ∃ A n c, v = [.slice A n c, .int .i64 p.2] ∧ IsC w A n c p.1.flat ∧ i64 p.2
theorem keepsArg : Keeps RArg := fun _ _ _ _ ⟨A, n, c, h1, h2, h3⟩ hb => ⟨A, n, c, h1, h2.below hb, h3⟩
/-- a literal -/
def RLit : World → Bool × List C → List Value → Prop := fun w p v => ∃ A n c, v = [.bool p.1, .slice A n c] ∧ IsC w A n c p.2
theorem keepsLit : Keeps RLit := fun _ _ _ _ ⟨A, n, c, h1, h2⟩ hb => ⟨A, n, c, h1, h2.below hb⟩
abbrev IsLs (w : World) (A : Option Addr) (n cap : Nat) (l : List (Bool × List C)) : Prop := IsG RLit 2 w A n cap l

/-- a state by value -/
structure IsSt (w : World) (v : Value) (s : St) : Prop where
  val : ∃ A n c B m d D p e, v = .agg #[.slice A n c, .int .i64 s.next, .slice B m d, .slice D p e] ∧ IsK w A n c s.code ∧ IsI w B m d s.vars ∧ IsI w D p e s.regs
theorem IsSt.below {w w' : World} {v : Value} {s : St} (h : IsSt w v s) (hb : Below w.heap.size w w') : IsSt w' v s := by
  obtain ⟨A, n, c, B, m, d, D, p, e, h1, h2, h3, h4⟩ := h.val
  exact ⟨A, n, c, B, m, d, D, p, e, h1, h2.below keepsIn hb, h3.below hb, h4.below hb⟩
/-- how great a state may be -/
structure St.fit (s : St) (N : Nat) : Prop where
  code : s.code.length ≤ N
  next : s.next ≤ N
  vars : s.vars.length ≤ N
  same : s.regs.length = s.vars.length
  wf : ∀ i ∈ s.code, i.wf
  rg : ∀ r ∈ s.regs, 0 ≤ r ∧ r ≤ (N : Int)
  vr : ∀ v ∈ s.vars, i64 v
theorem i64_0 : i64 0 := ⟨by decide, by decide⟩
theorem empty_size : (⟨#[]⟩ : ByteArray).size ≤ maxLen := by decide
theorem wfI {op x a n : Int} {nm : ByteArray} {neg : Bool} (h1 : i64 op) (h2 : i64 x) (h3 : i64 a) (h4 : i64 n) (h5 : nm.size ≤ maxLen) : (⟨op, x, a, nm, n, neg⟩ : In).wf := ⟨h1, h2, h3, h4, h5⟩
structure St.room (s : St) (k : Nat) : Prop where
  code : s.code.length + k ≤ 100000
  next : s.next + k ≤ 100000
  vars : s.vars.length + k ≤ 100000
theorem St.room.le {s : St} {k j : Nat} (h : s.room k) (hj : j ≤ k) : s.room j := ⟨by have := h.code; omega, by have := h.next; omega, by have := h.vars; omega⟩
theorem room_emit {s : St} {k : Nat} (i : In) (h : s.room (k + 1)) : (s.emit i).room k := ⟨by have := h.code; simp [St.emit]; omega, by have := h.next; simp [St.emit]; omega, by have := h.vars; simp [St.emit]; omega⟩
theorem room_bump {s : St} {k : Nat} (h : s.room (k + 1)) : s.bump.room k := ⟨by have := h.code; simp [St.bump]; omega, by have := h.next; simp [St.bump]; omega, by have := h.vars; simp [St.bump]; omega⟩
theorem regF_two (s : St) (v : Int) : regF s v = (s.bump.addv v s.next, (s.next : Int), true) ∨ ∃ r, r ∈ s.regs ∧ regF s v = (s, r, false) := by
  unfold regF
  split
  · rename_i r hr _
    exact .inr ⟨r, List.mem_of_getElem? hr, rfl⟩
  · exact .inl rfl
theorem regF_code (s : St) (v : Int) : (regF s v).1.code = s.code := by
  rcases regF_two s v with h | ⟨r, _, h⟩ <;> rw [h] <;> rfl
/-- a variable, and one instruction -/
theorem room_reg {s : St} {k : Nat} (v : Int) (i : In) (h : s.room (k + 1)) : ((regF s v).1.emit i).room k := by
  have h1 := h.code
  have h2 := h.next
  have h3 := h.vars
  rcases regF_two s v with e | ⟨r, _, e⟩ <;> rw [e]
  · exact ⟨by simp [St.emit, St.addv, St.bump]; omega, by simp [St.emit, St.addv, St.bump]; omega, by simp [St.emit, St.addv, St.bump]; omega⟩
  · exact ⟨by simp [St.emit]; omega, by simp [St.emit]; omega, by simp [St.emit]; omega⟩
/-- .. and one register more, and one instruction -/
theorem room_fresh {s : St} {k : Nat} (i : In) (h : s.room (k + 1)) : (s.emit i).bump.room k :=
  ⟨by have := h.code; simp [St.emit, St.bump]; omega, by have := h.next; simp [St.emit, St.bump]; omega, by have := h.vars; simp [St.emit, St.bump]; omega⟩
theorem room_one {s : St} {k : Nat} (a b c : Int) (T : Tm) (h : s.room (k + 1)) : (oneF a b c s T).room k := by
  cases T with
  | v n => exact room_reg n _ h
  | i n => exact room_emit _ h
  | f s us => exact h.le (by omega)
theorem oneF_code (a b c : Int) (s : St) (T : Tm) : s.code.length ≤ (oneF a b c s T).code.length := by
  cases T with
  | v n => simp [oneF, St.emit, regF_code]
  | i n => simp [oneF, St.emit]
  | f s us => exact Nat.le_refl _
theorem i64_small {n : Int} (h1 : -3000000000 ≤ n) (h2 : n ≤ 3000000000) : i64 n := ⟨by omega, by omega⟩
theorem i64_nat {n : Nat} (h2 : n ≤ 3000000000) : i64 (n : Int) := ⟨by omega, by omega⟩
/-- what a variable's register may be -/
theorem regF_reg {s : St} {N : Nat} (h : s.fit N) (v : Int) (hN : N ≤ 100000) : 0 ≤ (regF s v).2.1 ∧ (regF s v).2.1 ≤ 100000 := by
  rcases regF_two s v with e | ⟨r, hr, e⟩ <;> rw [e]
  · have := h.next; exact ⟨by simp, by simp; omega⟩
  · have := h.rg r hr; exact ⟨this.1, by simp; omega⟩
theorem c0_wf {T : Tm} (h : T.ok = true) : T.c0.wf := by
  cases T with
  | v n => simp [Tm.ok] at h; exact ⟨i64_small (n := 1) (by decide) (by decide), i64_small (n := n) (by omega) (by omega), empty_size⟩
  | i n => simp [Tm.ok] at h; exact ⟨i64_small (n := 2) (by decide) (by decide), i64_small (n := n) (by omega) (by omega), empty_size⟩
  | f s us =>
    simp [Tm.ok, okName] at h
    exact ⟨i64_small (n := 3) (by decide) (by decide), i64_nat (n := us.length) (by omega), by simp [Tm.c0, maxLen]; omega⟩
end Go.Proofs.Ytdeaeiolehglaaa
