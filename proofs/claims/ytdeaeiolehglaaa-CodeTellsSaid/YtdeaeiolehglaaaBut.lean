/- What a walk that keeps a state in one block of memory keeps. -/
import Derived.Deep.RegionWith
import Derived.Test.YtdeaeiolehglaaaReg
import Derived.Test.YtdeaeiolehglaaaBd
set_option linter.unusedVariables false
set_option linter.unusedSimpArgs false
namespace Go.Proofs.Ytdeaeiolehglaaa
open Go.RowKit

theorem on_world {G : World → Prop} {w : World} (Φ : World → Prop) (h : Φ w) (k : ∀ X, Φ X → G X) : G w := k w h
/-- w' is w but for block b, and new blocks -/
structure But (w w' : World) (b : Nat) : Prop where
  os : w'.os = w.os
  tape : w'.tape = w.tape
  output : w'.output = w.output
  size : w.heap.size ≤ w'.heap.size
  block : ∀ k, k < w.heap.size → k ≠ b → w'.heap[k]? = w.heap[k]?
theorem But.refl (w : World) (b : Nat) : But w w b := ⟨rfl, rfl, rfl, Nat.le_refl _, fun _ _ _ => rfl⟩
theorem But.trans {w w' w'' : World} {b : Nat} (h : But w w' b) (h' : But w' w'' b) : But w w'' b :=
  ⟨h'.os.trans h.os, h'.tape.trans h.tape, h'.output.trans h.output, Nat.le_trans h.size h'.size, fun k hk hne => (h'.block k (Nat.lt_of_lt_of_le hk h.size) hne).trans (h.block k hk hne)⟩
theorem But.of {w w' : World} {b : Nat} (h : Below w.heap.size w w') : But w w' b := ⟨h.os, h.tape, h.output, h.size, fun k hk _ => h.block k hk⟩
theorem But.set (w : World) (b k : Nat) (v : Value) : But w (w.setCell ⟨b, k, none⟩ v) b := ⟨rfl, rfl, rfl, by simp, fun _ _ hne => set_other hne v⟩
theorem But.below {w w' : World} {b B : Nat} (h : But w w' b) (hB : B ≤ b) (hw : B ≤ w.heap.size) : Below B w w' := ⟨h.os, h.tape, h.output, h.size, fun k hk => h.block k (by omega) (by omega)⟩
/-- block b holds a state -/
def Bx (w : World) (b : Nat) (A : Option Addr) (n c : Nat) (B : Option Addr) (m d : Nat) (D : Option Addr) (p e : Nat) (s : St) : Prop :=
  w.heap[b]? = some (.cells #[.slice A n c, .int .i64 s.next, .slice B m d, .slice D p e] 72 (0, 0)) ∧ StAt w A n c B m d D p e s
theorem set4 {w : World} {b : Nat} {a0 a1 a2 a3 : Value} (h : w.heap[b]? = some (.cells #[a0, a1, a2, a3] 72 (0, 0))) (v0 v1 v2 v3 : Value) :
    ((((w.setCell ⟨b, 0, none⟩ v0).setCell ⟨b, 1, none⟩ v1).setCell ⟨b, 2, none⟩ v2).setCell ⟨b, 3, none⟩ v3).heap[b]? = some (.cells #[v0, v1, v2, v3] 72 (0, 0)) := by
  have h0 := set_block (k := 0) h v0
  have h1 := set_block (k := 1) h0 v1
  have h2 := set_block (k := 2) h1 v2
  have h3 := set_block (k := 3) h2 v3
  simpa using h3
theorem but4 (w : World) (b : Nat) (v0 v1 v2 v3 : Value) : But w ((((w.setCell ⟨b, 0, none⟩ v0).setCell ⟨b, 1, none⟩ v1).setCell ⟨b, 2, none⟩ v2).setCell ⟨b, 3, none⟩ v3) b :=
  (((But.set w b 0 v0).trans (But.set _ b 1 v1)).trans (But.set _ b 2 v2)).trans (But.set _ b 3 v3)
/-- what is read outside block b is read on -/
theorem Sl.but {w w' : World} {b size n c : Nat} {A : Option Addr} {xs : List Value} (h : Sl w size A n c xs) (hb : But w w' b) (hne : ∀ a, A = some a → a.block ≠ b) : Sl w' size A n c xs := by
  refine ⟨h.len, h.hcap, h.hmax, fun hn => ?_⟩
  obtain ⟨g, off, rfl, hlt, hc⟩ := h.cells hn
  refine ⟨g, off, rfl, Nat.lt_of_lt_of_le hlt hb.size, fun j u hu => ?_⟩
  rw [← hc j u hu]
  exact World.cell?_of_block (hb.block g hlt (hne _ rfl))
theorem But.drew {w w' : World} {b : Nat} (h : But w w' b) : But w w'.drew b := h.trans (But.of (Below.refl _ _).drew)
theorem But.alloc {w w' : World} {b : Nat} (h : But w w' b) (o : Obj) : But w (w'.alloc o) b := h.trans (But.of ((Below.refl _ _).alloc (Nat.le_refl _) o))
theorem But.setB {w w' : World} {b k : Nat} (h : But w w' b) (v : Value) : But w (w'.setCell ⟨b, k, none⟩ v) b := h.trans (But.set w' b k v)
theorem But.setNew {w w' : World} {b g k : Nat} (h : But w w' b) (hg : w.heap.size ≤ g) (v : Value) : But w (w'.setCell ⟨g, k, none⟩ v) b :=
  ⟨h.os, h.tape, h.output, by simpa using h.size, fun q hq hne => (set_other (by omega) v).trans (h.block q hq hne)⟩
theorem NewOr.trans {w w1 : World} {A0 A1 A2 : Option Addr} {n0 n1 n2 : Nat} (h : NewOr w A0 n0 A1 n1) (h' : NewOr w1 A1 n1 A2 n2) (hw : w.heap.size ≤ w1.heap.size) : NewOr w A0 n0 A2 n2 := by
  rcases h' with ⟨rfl, rfl⟩ | h'
  · exact h
  · exact .inr fun a ha => Nat.le_trans hw (h' a ha)
theorem NewOr.lower {w w1 : World} {A0 A1 : Option Addr} {n0 n1 : Nat} (h : NewOr w1 A0 n0 A1 n1) (hw : w.heap.size ≤ w1.heap.size) : NewOr w A0 n0 A1 n1 := h.imp id fun h a ha => Nat.le_trans hw (h a ha)
theorem fit_reg {s : St} {v : Int} (h : s.fit 100000) (hr : s.room 1) (hv : i64 v) : (regF s v).1.fit 100000 := by
  have h2 := hr.next
  have h3 := hr.vars
  rcases regF_two s v with e | ⟨r, _, e⟩ <;> rw [e]
  · exact ⟨h.code, by simp [St.addv, St.bump]; omega, by simp [St.addv, St.bump]; omega, by simp [St.addv, St.bump, h.same], h.wf, fun x hx => by
      simp [St.addv, St.bump] at hx
      rcases hx with hx | rfl
      · exact h.rg x hx
      · omega, fun x hx => by
      simp [St.addv, St.bump] at hx
      rcases hx with hx | rfl
      · exact h.vr x hx
      · exact hv⟩
  · exact h
/-- a slice that does not lie in block b -/
def Off (A : Option Addr) (n b : Nat) : Prop := 0 < n → ∀ a, A = some a → a.block ≠ b
theorem Off.new {w : World} {B0 B : Option Addr} {m0 m b : Nat} (h : Off B0 m0 b) (hb : b < w.heap.size) (hn : NewOr w B0 m0 B m) : Off B m b := fun hm a ha => by
  rcases hn with ⟨rfl, rfl⟩ | h1
  · exact h hm a ha
  · have := h1 a ha; omega
theorem Sl.off {w : World} {A : Option Addr} {size n c b : Nat} {xs : List Value} (h : Sl w size A n c xs) (hb : w.heap.size ≤ b) : Off A n b := fun hn a ha => by
  obtain ⟨g, off, rfl, hlt, _⟩ := h.cells hn
  cases ha
  simp only
  omega
theorem Sl.but' {w w' : World} {b size n c : Nat} {A : Option Addr} {xs : List Value} (h : Sl w size A n c xs) (hb : But w w' b) (hne : Off A n b) : Sl w' size A n c xs := by
  refine ⟨h.len, h.hcap, h.hmax, fun hn => ?_⟩
  obtain ⟨g, off, rfl, hlt, hc⟩ := h.cells hn
  refine ⟨g, off, rfl, Nat.lt_of_lt_of_le hlt hb.size, fun j u hu => ?_⟩
  rw [← hc j u hu]
  exact World.cell?_of_block (hb.block g hlt (hne hn _ rfl))
theorem StAt.but {w w' : World} {A B D : Option Addr} {n c m d p e b : Nat} {s : St} (h : StAt w A n c B m d D p e s) (hb : But w w' b) (hA : Off A n b) (hB : Off B m b) (hD : Off D p b) : StAt w' A n c B m d D p e s := by
  obtain ⟨vs, h1, h2, h3, h4⟩ := h.code.rows
  exact ⟨⟨h.code.len, vs, h1, h2, h3.but' hb hA, fun i x v hx hv => h4 i x v hx hv⟩, ⟨h.vars.sl.but' hb hB, h.vars.wf⟩, ⟨h.regs.sl.but' hb hD, h.regs.wf⟩⟩
theorem StAt.off {w : World} {A B D : Option Addr} {n c m d p e b : Nat} {s : St} (h : StAt w A n c B m d D p e s) (hb : w.heap.size ≤ b) : Off A n b ∧ Off B m b ∧ Off D p b := by
  obtain ⟨vs, h1, h2, h3, h4⟩ := h.code.rows
  exact ⟨h3.off hb, h.vars.sl.off hb, h.regs.sl.off hb⟩
theorem IsG.but {α : Type} {Rl : World → α → List Value → Prop} {w w' : World} {A : Option Addr} {k n c b : Nat} {xs : List α} (hR : ∀ w w' x v, Rl w x v → Rl w' x v) (h : IsG Rl k w A n c xs) (hb : But w w' b) (hA : Off A n b) : IsG Rl k w' A n c xs := by
  obtain ⟨vs, h1, h2, h3, h4⟩ := h.rows
  exact ⟨h.len, vs, h1, h2, h3.but' hb hA, fun i x v hx hv => hR _ _ _ _ (h4 i x v hx hv)⟩
theorem IsG.off {α : Type} {Rl : World → α → List Value → Prop} {w : World} {A : Option Addr} {k n c b : Nat} {xs : List α} (h : IsG Rl k w A n c xs) (hb : w.heap.size ≤ b) : Off A n b := by
  obtain ⟨vs, h1, h2, h3, h4⟩ := h.rows
  exact h3.off hb
/-- the four cells of a state in memory -/
theorem open4 {w : World} {b : Nat} {v0 v1 v2 v3 : Value} (h : w.heap[b]? = some (.cells #[v0, v1, v2, v3] 72 (0, 0))) :
    w.cell? ⟨b, 0, none⟩ = some v0 ∧ w.cell? ⟨b, 1, none⟩ = some v1 ∧ w.cell? ⟨b, 2, none⟩ = some v2 ∧ w.cell? ⟨b, 3, none⟩ = some v3 ∧
      w.frozen? ⟨b, 0, none⟩ = false ∧ w.frozen? ⟨b, 1, none⟩ = false ∧ w.frozen? ⟨b, 2, none⟩ = false ∧ w.frozen? ⟨b, 3, none⟩ = false ∧ b < w.heap.size :=
  ⟨cells_of h 0, cells_of h 1, cells_of h 2, cells_of h 3, frozen_of h 0, frozen_of h 1, frozen_of h 2, frozen_of h 3, block_lt h⟩
theorem open2 {w : World} {b : Nat} {v0 v1 : Value} {t : TypeId} (h : w.heap[b]? = some (.cells #[v0, v1] t (0, 0))) :
    w.cell? ⟨b, 0, none⟩ = some v0 ∧ w.cell? ⟨b, 1, none⟩ = some v1 ∧ b < w.heap.size := ⟨cells_of h 0, cells_of h 1, block_lt h⟩
theorem open3 {w : World} {b : Nat} {v0 v1 v2 : Value} {t : TypeId} (h : w.heap[b]? = some (.cells #[v0, v1, v2] t (0, 0))) :
    w.cell? ⟨b, 0, none⟩ = some v0 ∧ w.cell? ⟨b, 1, none⟩ = some v1 ∧ w.cell? ⟨b, 2, none⟩ = some v2 ∧ b < w.heap.size := ⟨cells_of h 0, cells_of h 1, cells_of h 2, block_lt h⟩
theorem fit_emit {s : St} {i : In} (h : s.fit 100000) (hr : s.code.length + 1 ≤ 100000) (hi : i.wf) : (s.emit i).fit 100000 :=
  ⟨by simp [St.emit]; omega, h.next, h.vars, h.same, fun x hx => by
    simp [St.emit] at hx
    rcases hx with hx | rfl
    · exact h.wf x hx
    · exact hi, h.rg, h.vr⟩
theorem fit_one {s : St} {a b c : Int} {T : Tm} (h : s.fit 100000) (hr : s.room 1) (hT : T.ok = true) (ha : i64 a) (hb : i64 b) (hc : i64 c) : (oneF a b c s T).fit 100000 := by
  have hw := c0_wf hT
  have hcd := hr.code
  cases T with
  | v n =>
    have hg := regF_reg h n (by omega)
    exact fit_emit (fit_reg h hr hw.n) (by rw [regF_code]; omega) (wfI (by split <;> assumption) (i64_small (by omega) (by omega)) i64_0 i64_0 empty_size)
  | i n => exact fit_emit h (by omega) (wfI hc i64_0 i64_0 hw.n empty_size)
  | f s us => exact h
theorem fit_bump {s : St} (h : s.fit 100000) (hr : s.next + 1 ≤ 100000) : s.bump.fit 100000 := ⟨h.code, hr, h.vars, h.same, h.wf, h.rg, h.vr⟩
theorem IsG.but4 {α : Type} {Rl : World → α → List Value → Prop} {w : World} {A : Option Addr} {k n c b : Nat} {xs : List α} (hR : ∀ w w' x v, Rl w x v → Rl w' x v) (h : IsG Rl k w A n c xs) (hA : Off A n b) (v0 v1 v2 v3 : Value) : IsG Rl k ((((w.setCell ⟨b, 0, none⟩ v0).setCell ⟨b, 1, none⟩ v1).setCell ⟨b, 2, none⟩ v2).setCell ⟨b, 3, none⟩ v3) A n c xs := h.but hR (Go.Proofs.Ytdeaeiolehglaaa.but4 w b v0 v1 v2 v3) hA
theorem StAt.but4 {w : World} {A B D : Option Addr} {n c m d p e b : Nat} {s : St} (h : StAt w A n c B m d D p e s) (hA : Off A n b) (hB : Off B m b) (hD : Off D p b) (v0 v1 v2 v3 : Value) : StAt ((((w.setCell ⟨b, 0, none⟩ v0).setCell ⟨b, 1, none⟩ v1).setCell ⟨b, 2, none⟩ v2).setCell ⟨b, 3, none⟩ v3) A n c B m d D p e s := h.but (Go.Proofs.Ytdeaeiolehglaaa.but4 w b v0 v1 v2 v3) hA hB hD
theorem keepsArgWb (W : World) : ∀ w w' x v, RArgW W w x v → RArgW W w' x v := fun _ _ _ _ h => h
/-- how much code a state in memory has -/
def plen (w : World) (b : Nat) : Nat := match w.heap[b]? with
  | some (Obj.cells cs _ _) => match cs[0]? with
    | some (Value.slice _ n _) => n
    | _ => 0
  | _ => 0
theorem plen_at {w : World} {b n c : Nat} {A : Option Addr} {v1 v2 v3 : Value} (h : w.heap[b]? = some (.cells #[.slice A n c, v1, v2, v3] 72 (0, 0))) : plen w b = n := by
  unfold plen
  rw [h]
  rfl
theorem unisF_code : ∀ (ts : List Tm) (s : St), s.code.length ≤ (unisF s ts).1.code.length
  | [], s => Nat.le_refl _
  | t :: ts, s => by
    by_cases hk : t.c0.kind = 3
    · rw [unisF_fun s t ts hk]
      have := unisF_code ts (s.emit { op := 5, x := s.next }).bump
      simp [St.emit, St.bump] at this ⊢
      omega
    · rw [unisF_one s t ts hk]
      have := unisF_code ts (oneF 5 6 7 s t)
      have := oneF_code 5 6 7 s t
      omega
theorem headF_code (s : St) (p : Tm × Int) : s.code.length + 1 ≤ (headF s p).1.code.length := by
  obtain ⟨t, r⟩ := p
  cases t with
  | v n => simp [headF, St.emit, regF_code]
  | i n => simp [headF, St.emit]
  | f nm us =>
    rw [headF_fun s _ r rfl]
    have := unisF_code (Tm.f nm us).args (s.emit { op := 4, a := r, name := (Tm.f nm us).c0.name, n := (Tm.f nm us).c0.n })
    simp [St.emit] at this ⊢
    omega
theorem fit_unis : ∀ (ts : List Tm) (s : St), s.fit 100000 → s.room (2 * sizes ts) → oks ts = true → (unisF s ts).1.fit 100000
  | [], s, h, _, _ => h
  | t :: ts, s, h, hr, ho => by
    rw [oks_cons, Bool.and_eq_true] at ho
    rw [sizes_cons, size_args] at hr
    by_cases hk : t.c0.kind = 3
    · rw [unisF_fun s t ts hk]
      have h1 := hr.next
      have h2 := hr.code
      exact fit_unis ts _ (fit_bump (fit_emit h (by omega) (wfI (i64_small (by decide) (by decide)) (i64_small (by omega) (by omega)) i64_0 i64_0 empty_size)) (by simp [St.emit]; omega)) (room_fresh _ (hr.le (by omega))) ho.2
    · rw [unisF_one s t ts hk]
      exact fit_unis ts _ (fit_one h (hr.le (by omega)) ho.1 (i64_small (by decide) (by decide)) (i64_small (by decide) (by decide)) (i64_small (by decide) (by decide))) (room_one _ _ _ _ (hr.le (by omega))) ho.2
end Go.Proofs.Ytdeaeiolehglaaa
