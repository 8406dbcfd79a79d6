/- Words of memory: a slice that reads as a list of cells, of numbers, of rows of cells; what stays as it was. No program in sight. -/
import Derived.WalkKit
import Derived.WalkSpells
import Derived.WalkLawsBesides
import Derived.BigQuiet
import Derived.Lib.Hide
import Derived.Deep.QuietTactic
import Derived.Deep.AppendLies
import Derived.Maps.AppendAt
set_option linter.unusedVariables false
set_option linter.unusedSimpArgs false
namespace Go.Proofs.Ytdeaeiolehglaaa
open Go.RowKit

theorem bcell {W w1 : World} {B : Nat} (hb : Below B W w1) : (∀ b o, b < B → w1.cell? ⟨b, o, none⟩ = W.cell? ⟨b, o, none⟩) ∧ (∀ b o, b < B → w1.frozen? ⟨b, o, none⟩ = W.frozen? ⟨b, o, none⟩) :=
  ⟨fun b o h => hb.cell (p := ⟨b, o, none⟩) h, fun b o h => hb.frozen (p := ⟨b, o, none⟩) h⟩

/-- a cell of a term -/
structure C where
  kind : Int
  name : ByteArray
  n : Int

def i64 (n : Int) : Prop := -9223372036854775808 ≤ n ∧ n ≤ 9223372036854775807
structure C.wf (c : C) : Prop where
  kind : i64 c.kind
  n : i64 c.n
  name : c.name.size ≤ maxLen
def C.val (c : C) : Value := .agg #[.int .i64 c.kind, .string c.name, .int .i64 c.n]
def C.flat (c : C) : List Value := [.int .i64 c.kind, .string c.name, .int .i64 c.n]
def flatC (cs : List C) : List Value := cs.flatMap C.flat
def C.beq (a b : C) : Bool := a.kind == b.kind && (a.name.toList == b.name.toList && a.n == b.n)

/-- a slice value that reads as so many values, each of them in one place -/
structure Sl (w : World) (size : Nat) (A : Option Addr) (n cap : Nat) (xs : List Value) : Prop where
  len : xs.length = n * size
  hcap : n ≤ cap
  hmax : cap ≤ maxLen
  cells : 0 < n → ∃ b off, A = some ⟨b, off, none⟩ ∧ b < w.heap.size ∧ ∀ j u, xs[j]? = some u → w.cell? ⟨b, off + j, none⟩ = some u

theorem Sl.below {w w' : World} {size n cap : Nat} {A : Option Addr} {xs : List Value} (h : Sl w size A n cap xs) (hb : Below w.heap.size w w') : Sl w' size A n cap xs :=
  ⟨h.len, h.hcap, h.hmax, fun hn => by
    obtain ⟨b, off, hA, hlt, hc⟩ := h.cells hn
    exact ⟨b, off, hA, Nat.lt_of_lt_of_le hlt hb.size, fun j u hu => (hb.cell (p := ⟨b, off + j, none⟩) hlt).trans (hc j u hu)⟩⟩

theorem Sl.cut {w : World} {size n cap : Nat} {A : Option Addr} {xs : List Value} (h : Sl w size A n cap xs) {lo hi : Nat} (hlo : lo ≤ hi) (hhi : hi ≤ n) (_hs : 0 < size) :
    Sl w size (if cap = lo then A else A.map (·.add (lo * size))) (hi - lo) (cap - lo) ((xs.drop (lo * size)).take ((hi - lo) * size)) := by
  have h1 := h.hcap
  have h2 := h.hmax
  have h3 := h.len
  have hle : lo * size + (hi - lo) * size ≤ n * size := by rw [← Nat.add_mul]; exact Nat.mul_le_mul_right _ (by omega)
  refine ⟨by rw [List.length_take, List.length_drop, h3]; omega, by omega, by omega, fun hn => ?_⟩
  obtain ⟨b, off, rfl, hlt, hc⟩ := h.cells (by omega)
  rw [if_neg (by omega)]
  refine ⟨b, off + lo * size, by simp [Addr.add], hlt, fun j u hu => ?_⟩
  rw [List.getElem?_take] at hu
  split at hu
  · rw [List.getElem?_drop] at hu
    have := hc _ u hu
    rwa [← Nat.add_assoc] at this
  · cases hu

theorem Sl.of_own {w : World} {base size n : Nat} {e : TypeId} {v : Value} {xs : List Value} (h : w.ownsRow base e size v n xs) (_hs : 0 < size) : ∃ A cap, v = .slice A n cap ∧ Sl w size A n cap xs := by
  rcases h.2 with ⟨rfl, rfl⟩ | ⟨g, cap, cur, rfl, hb, hg, h1, h2, h3, h4⟩
  · exact ⟨none, 0, rfl, by have := h.1; simpa using this, Nat.le_refl _, by simp [maxLen], fun h => absurd h (by omega)⟩
  · refine ⟨some ⟨g, 0, none⟩, cap, rfl, h.1, h1, h2, fun _ => ⟨g, 0, rfl, (Array.getElem?_eq_some_iff.1 hg).1, fun j u hu => ?_⟩⟩
    rw [Nat.zero_add, cell_of_row w g j cur e (0, 0) hg]
    rw [← h4, List.getElem?_take] at hu
    split at hu
    · simpa using hu
    · cases hu

/-! ### cells -/
theorem flatC_len (cs : List C) : (flatC cs).length = cs.length * 3 := by
  induction cs with
  | nil => rfl
  | cons c cs ih => simp [flatC, C.flat] at ih ⊢; omega
theorem flatC_append (a b : List C) : flatC (a ++ b) = flatC a ++ flatC b := by simp [flatC]
theorem flatC_drop (cs : List C) (k : Nat) : (flatC cs).drop (k * 3) = flatC (cs.drop k) := by
  induction cs generalizing k with
  | nil => simp [flatC]
  | cons c cs ih =>
    cases k with
    | zero => simp
    | succ k =>
      have := ih k
      rw [Nat.succ_mul]
      simp [flatC, C.flat] at this ⊢
      exact this
theorem flatC_take (cs : List C) (k : Nat) : (flatC cs).take (k * 3) = flatC (cs.take k) := by
  induction cs generalizing k with
  | nil => simp [flatC]
  | cons c cs ih =>
    cases k with
    | zero => simp [flatC]
    | succ k =>
      have := ih k
      rw [Nat.succ_mul]
      simp [flatC, C.flat] at this ⊢
      exact this
theorem flatC_get (cs : List C) (k : Nat) (c : C) (h : cs[k]? = some c) :
    (flatC cs)[k * 3]? = some (.int .i64 c.kind) ∧ (flatC cs)[k * 3 + 1]? = some (.string c.name) ∧ (flatC cs)[k * 3 + 2]? = some (.int .i64 c.n) := by
  induction cs generalizing k with
  | nil => simp at h
  | cons d cs ih =>
    cases k with
    | zero => simp at h; subst h; simp [flatC, C.flat]
    | succ k =>
      have := ih k (by simpa using h)
      rw [Nat.succ_mul]
      simp [flatC, C.flat] at this ⊢
      exact this

structure IsC (w : World) (A : Option Addr) (n cap : Nat) (cs : List C) : Prop where
  sl : Sl w 3 A n cap (flatC cs)
  wf : ∀ c ∈ cs, c.wf
theorem IsC.len {w : World} {A : Option Addr} {n cap : Nat} {cs : List C} (h : IsC w A n cap cs) : cs.length = n := by
  have := h.sl.len
  rw [flatC_len] at this
  omega
theorem IsC.below {w w' : World} {A : Option Addr} {n cap : Nat} {cs : List C} (h : IsC w A n cap cs) (hb : Below w.heap.size w w') : IsC w' A n cap cs := ⟨h.sl.below hb, h.wf⟩
theorem IsC.at_ {w : World} {A : Option Addr} {n cap : Nat} {cs : List C} (h : IsC w A n cap cs) {k : Nat} {c : C} (hk : cs[k]? = some c) :
    ∃ b off, A = some ⟨b, off, none⟩ ∧ b < w.heap.size ∧ c.wf ∧ w.cell? ⟨b, off + k * 3, none⟩ = some (.int .i64 c.kind) ∧ w.cell? ⟨b, off + k * 3 + 1, none⟩ = some (.string c.name) ∧ w.cell? ⟨b, off + k * 3 + 2, none⟩ = some (.int .i64 c.n) := by
  have hlt : k < cs.length := (List.getElem?_eq_some_iff.1 hk).1
  obtain ⟨b, off, rfl, hb, hc⟩ := h.sl.cells (by have := h.len; omega)
  obtain ⟨h0, h1, h2⟩ := flatC_get cs k c hk
  exact ⟨b, off, rfl, hb, h.wf c (List.mem_of_getElem? hk), hc _ _ h0, hc _ _ h1, hc _ _ h2⟩
theorem IsC.open_ {w : World} {A : Option Addr} {n cap : Nat} {cs : List C} (h : IsC w A n cap cs) (hn : 0 < n) :
    ∃ b off, A = some ⟨b, off, none⟩ ∧ b < w.heap.size ∧ ∀ (k : Nat) (c : C), cs[k]? = some c → w.cell? ⟨b, off + k * 3, none⟩ = some (.int .i64 c.kind) ∧ w.cell? ⟨b, off + k * 3 + 1, none⟩ = some (.string c.name) ∧ w.cell? ⟨b, off + k * 3 + 2, none⟩ = some (.int .i64 c.n) := by
  obtain ⟨b, off, rfl, hb, hc⟩ := h.sl.cells hn
  refine ⟨b, off, rfl, hb, fun k c hk => ?_⟩
  obtain ⟨h0, h1, h2⟩ := flatC_get cs k c hk
  exact ⟨hc _ _ h0, hc _ _ h1, hc _ _ h2⟩
theorem IsC.get {w : World} {A : Option Addr} {n cap : Nat} {cs : List C} (h : IsC w A n cap cs) {k : Nat} (hk : k < n) : ∃ c, cs[k]? = some c :=
  ⟨_, List.getElem?_eq_getElem (by have := h.len; omega)⟩
theorem IsC.cut {w : World} {A : Option Addr} {n cap : Nat} {cs : List C} (h : IsC w A n cap cs) {lo hi : Nat} (hlo : lo ≤ hi) (hhi : hi ≤ n) :
    IsC w (if cap = lo then A else A.map (·.add (lo * 3))) (hi - lo) (cap - lo) ((cs.drop lo).take (hi - lo)) := by
  refine ⟨?_, fun c hc => h.wf c (List.mem_of_mem_drop (List.mem_of_mem_take hc))⟩
  have := h.sl.cut hlo hhi (by omega)
  rwa [flatC_drop, flatC_take] at this
theorem IsC.cut' {w : World} {b off n cap : Nat} {cs : List C} (h : IsC w (some ⟨b, off, none⟩) n cap cs) {lo hi : Nat} (hlo : lo ≤ hi) (hhi : hi ≤ n) (hc : ¬ cap = lo) :
    IsC w (some ⟨b, off + lo * 3, none⟩) (hi - lo) (cap - lo) ((cs.drop lo).take (hi - lo)) := by
  have := h.cut hlo hhi
  rw [if_neg hc] at this
  have e : (⟨b, off, none⟩ : Addr).add (lo * 3) = ⟨b, off + lo * 3, none⟩ := by unfold Addr.add; split <;> simp_all
  simpa [e] using this
theorem IsC.take {w : World} {A : Option Addr} {n cap : Nat} {cs : List C} (h : IsC w A n cap cs) {m : Nat} (hm : m ≤ n) : IsC w A m cap (cs.take m) := by
  have h1 := h.sl.hcap
  have h3 := h.len
  refine ⟨⟨by rw [flatC_len, List.length_take]; omega, by omega, h.sl.hmax, fun hn => ?_⟩, fun c hc => h.wf c (List.mem_of_mem_take hc)⟩
  obtain ⟨b, off, rfl, hb, hc⟩ := h.sl.cells (by omega)
  refine ⟨b, off, rfl, hb, fun j u hu => hc j u ?_⟩
  rw [← flatC_take, List.getElem?_take] at hu
  split at hu
  · exact hu
  · cases hu
theorem IsC.nil (w : World) (A : Option Addr) (cap : Nat) (h : cap ≤ maxLen) : IsC w A 0 cap [] := ⟨⟨rfl, Nat.zero_le _, h, fun h => absurd h (by omega)⟩, by simp⟩

/-! ### numbers -/
structure IsI (w : World) (A : Option Addr) (n cap : Nat) (ns : List Int) : Prop where
  sl : Sl w 1 A n cap (ns.map (Value.int .i64))
  wf : ∀ x ∈ ns, i64 x
theorem IsI.len {w : World} {A : Option Addr} {n cap : Nat} {ns : List Int} (h : IsI w A n cap ns) : ns.length = n := by
  have := h.sl.len
  rw [List.length_map] at this
  omega
theorem IsI.below {w w' : World} {A : Option Addr} {n cap : Nat} {ns : List Int} (h : IsI w A n cap ns) (hb : Below w.heap.size w w') : IsI w' A n cap ns := ⟨h.sl.below hb, h.wf⟩
theorem IsI.at_ {w : World} {A : Option Addr} {n cap : Nat} {ns : List Int} (h : IsI w A n cap ns) {k : Nat} {x : Int} (hk : ns[k]? = some x) :
    ∃ b off, A = some ⟨b, off, none⟩ ∧ b < w.heap.size ∧ i64 x ∧ w.cell? ⟨b, off + k, none⟩ = some (.int .i64 x) := by
  have hlt : k < ns.length := (List.getElem?_eq_some_iff.1 hk).1
  obtain ⟨b, off, rfl, hb, hc⟩ := h.sl.cells (by have := h.len; omega)
  exact ⟨b, off, rfl, hb, h.wf x (List.mem_of_getElem? hk), hc _ _ (by rw [List.getElem?_map, hk]; rfl)⟩
theorem IsI.open_ {w : World} {A : Option Addr} {n cap : Nat} {ns : List Int} (h : IsI w A n cap ns) (hn : 0 < n) :
    ∃ b off, A = some ⟨b, off, none⟩ ∧ b < w.heap.size ∧ ∀ (k : Nat) (x : Int), ns[k]? = some x → w.cell? ⟨b, off + k, none⟩ = some (.int .i64 x) := by
  obtain ⟨b, off, rfl, hb, hc⟩ := h.sl.cells hn
  exact ⟨b, off, rfl, hb, fun k x hk => hc _ _ (by rw [List.getElem?_map, hk]; rfl)⟩
theorem IsI.get {w : World} {A : Option Addr} {n cap : Nat} {ns : List Int} (h : IsI w A n cap ns) {k : Nat} (hk : k < n) : ∃ x, ns[k]? = some x :=
  ⟨_, List.getElem?_eq_getElem (by have := h.len; omega)⟩
theorem IsI.nil (w : World) (A : Option Addr) (cap : Nat) (h : cap ≤ maxLen) : IsI w A 0 cap [] := ⟨⟨rfl, Nat.zero_le _, h, fun h => absurd h (by omega)⟩, by simp⟩

/-! ### rows of cells -/
structure IsCC (w : World) (A : Option Addr) (n cap : Nat) (ts : List (List C)) : Prop where
  len : ts.length = n
  rows : ∃ vs : List Value, Sl w 1 A n cap vs ∧ ∀ (i : Nat) (t : List C), ts[i]? = some t → ∃ A' n' cap', vs[i]? = some (Value.slice A' n' cap') ∧ IsC w A' n' cap' t
theorem IsCC.below {w w' : World} {A : Option Addr} {n cap : Nat} {ts : List (List C)} (h : IsCC w A n cap ts) (hb : Below w.heap.size w w') : IsCC w' A n cap ts := by
  refine ⟨h.len, ?_⟩
  obtain ⟨vs, hs, hr⟩ := h.rows
  exact ⟨vs, hs.below hb, fun i t hi => by obtain ⟨A', n', cap', hv, hc⟩ := hr i t hi; exact ⟨A', n', cap', hv, hc.below hb⟩⟩
theorem IsCC.at_ {w : World} {A : Option Addr} {n cap : Nat} {ts : List (List C)} (h : IsCC w A n cap ts) {k : Nat} {t : List C} (hk : ts[k]? = some t) :
    ∃ b off A' n' cap', A = some ⟨b, off, none⟩ ∧ b < w.heap.size ∧ w.cell? ⟨b, off + k, none⟩ = some (.slice A' n' cap') ∧ IsC w A' n' cap' t := by
  have hlt : k < ts.length := (List.getElem?_eq_some_iff.1 hk).1
  obtain ⟨vs, hs, hr⟩ := h.rows
  obtain ⟨b, off, rfl, hb, hc⟩ := hs.cells (by have := h.len; omega)
  obtain ⟨A', n', cap', hv, hcc⟩ := hr k t hk
  exact ⟨b, off, A', n', cap', rfl, hb, hc _ _ hv, hcc⟩
theorem IsCC.get {w : World} {A : Option Addr} {n cap : Nat} {ts : List (List C)} (h : IsCC w A n cap ts) {k : Nat} (hk : k < n) : ∃ t, ts[k]? = some t :=
  ⟨_, List.getElem?_eq_getElem (by have := h.len; omega)⟩

/-! ### draws -/
theorem below_drewN {B : Nat} {a w : World} (h : Below B a w) (n : Nat) : Below B a (w.drewN n) := ⟨h.os, h.tape, h.output, h.size, h.block⟩
theorem quiet_add {P : Program} {f : FuncId} {args : Array Value} {w : World} {a n : Nat} {v : Value}
    (h : Calls P f args (w.drewN (a + n)) fun e w' => e = .returned v ∧ ∃ m, w' = (w.drewN (a + n)).drewN m) :
    Calls P f args (w.drewN (a + n)) fun e w'' => e = .returned v ∧ ∃ m, w'' = w.drewN (a + m) :=
  h.mono fun _ _ ⟨he, m, hm⟩ => ⟨he, n + m, by rw [hm, World.drewN_drewN, Nat.add_assoc]⟩
theorem quiet_add_left {P : Program} {f : FuncId} {args : Array Value} {w : World} {a n : Nat} {v : Value}
    (h : Calls P f args (w.drewN (a + n)) fun e w' => e = .returned v ∧ w.drewN (a + n) = w') :
    Calls P f args (w.drewN (a + n)) fun e w'' => e = .returned v ∧ ∃ m, w'' = w.drewN (a + m) :=
  h.mono fun _ _ ⟨he, hm⟩ => ⟨he, n, hm.symm⟩
/-! ### what a call hands back -/
def RetD (w : World) (v : Value) (e : Ending) (w' : World) : Prop := e = .returned v ∧ ∃ n, w' = w.drewN n
def RetV (w : World) (v : Value) (e : Ending) (w' : World) : Prop := e = .returned v ∧ Below w.heap.size w w'
def RetC (w : World) (cs : List C) (e : Ending) (w' : World) : Prop := ∃ A n cap, e = .returned (.slice A n cap) ∧ IsC w' A n cap cs ∧ Below w.heap.size w w'
def RetI (w : World) (ns : List Int) (e : Ending) (w' : World) : Prop := ∃ A n cap, e = .returned (.slice A n cap) ∧ IsI w' A n cap ns ∧ Below w.heap.size w w'
def RetCC (w : World) (ts : List (List C)) (e : Ending) (w' : World) : Prop := ∃ A n cap, e = .returned (.slice A n cap) ∧ IsCC w' A n cap ts ∧ Below w.heap.size w w'
theorem RetC.at_ {w : World} {cs : List C} {e : Ending} {w' : World} (h : RetC w cs e w') {n : Nat} (hl : cs.length = n) : ∃ A cap, e = .returned (.slice A n cap) ∧ IsC w' A n cap cs ∧ Below w.heap.size w w' := by
  obtain ⟨A, m, cap, he, hi, hb⟩ := h
  obtain rfl : m = n := by rw [← hi.len, hl]
  exact ⟨A, cap, he, hi, hb⟩
theorem RetI.at_ {w : World} {cs : List Int} {e : Ending} {w' : World} (h : RetI w cs e w') {n : Nat} (hl : cs.length = n) : ∃ A cap, e = .returned (.slice A n cap) ∧ IsI w' A n cap cs ∧ Below w.heap.size w w' := by
  obtain ⟨A, m, cap, he, hi, hb⟩ := h
  obtain rfl : m = n := by rw [← hi.len, hl]
  exact ⟨A, cap, he, hi, hb⟩
theorem RetD.v {w : World} {v : Value} {e : Ending} {w' : World} (h : RetD w v e w') : RetV w v e w' := by
  obtain ⟨h, n, rfl⟩ := h
  exact ⟨h, below_drewN (Below.refl _ _) n⟩
theorem IsC.drewN {w : World} {A : Option Addr} {n cap : Nat} {cs : List C} (h : IsC w A n cap cs) (d : Nat) : IsC (w.drewN d) A n cap cs := h.below (below_drewN (Below.refl _ _) d)
theorem IsI.drewN {w : World} {A : Option Addr} {n cap : Nat} {cs : List Int} (h : IsI w A n cap cs) (d : Nat) : IsI (w.drewN d) A n cap cs := h.below (below_drewN (Below.refl _ _) d)
theorem ret_int {k : IntKind} {a b : Int} (h : a = b) : Ending.returned (.int k a) = .returned (.int k b) := by rw [h]
theorem ret_bool {a b : Bool} (h : a = b) : Ending.returned (.bool a) = .returned (.bool b) := by rw [h]
end Go.Proofs.Ytdeaeiolehglaaa
