/- Texts of this proof that belong together: words of memory, plain laws, short walks. -/
import Derived.WalkKit
import Derived.WalkSpells
import Derived.WalkLawsBesides
import Derived.BigQuiet
import Derived.Lib.Hide
import Derived.Deep.QuietTactic
import Derived.Deep.AppendLies
import Derived.Maps.AppendAt
import Derived.ArgAppend
import Derived.Deep.RegionHeld3
import Derived.Deep.RegionHeldLaw
set_option linter.unusedVariables false
set_option linter.unusedSimpArgs false
/- Words of memory: a slice that reads as a list of cells, of numbers, of rows of cells; what stays as it was. No program in sight. -/
namespace Go.Proofs.Ytlndjooddkjnoaa
open Go.RowKit

theorem bcell {W w1 : World} {B : Nat} (hb : Below B W w1) : (∀ b o, b < B → w1.cell? ⟨b, o, none⟩ = W.cell? ⟨b, o, none⟩) ∧ (∀ b o, b < B → w1.frozen? ⟨b, o, none⟩ = W.frozen? ⟨b, o, none⟩) :=
  ⟨fun b o h => hb.cell (p := ⟨b, o, none⟩) h, fun b o h => hb.frozen (p := ⟨b, o, none⟩) h⟩

/-- a cell of a term -/
structure C where
  kind : Int
  name : ByteArray
  n : Int

def i64 (n : Int) : Prop := -9223372036854775808 ≤ n ∧ n ≤ 9223372036854775807
structure C.wf (c : C) : Prop where
  kind : i64 c.kind
  n : i64 c.n
  name : c.name.size ≤ maxLen
def C.val (c : C) : Value := .agg #[.int .i64 c.kind, .string c.name, .int .i64 c.n]
def C.flat (c : C) : List Value := [.int .i64 c.kind, .string c.name, .int .i64 c.n]
def flatC (cs : List C) : List Value := cs.flatMap C.flat
def C.beq (a b : C) : Bool := a.kind == b.kind && (a.name.toList == b.name.toList && a.n == b.n)

/-- a slice value that reads as so many values, each of them in one place -/
structure Sl (w : World) (size : Nat) (A : Option Addr) (n cap : Nat) (xs : List Value) : Prop where
  len : xs.length = n * size
  hcap : n ≤ cap
  hmax : cap ≤ maxLen
  cells : 0 < n → ∃ b off, A = some ⟨b, off, none⟩ ∧ b < w.heap.size ∧ ∀ j u, xs[j]? = some u → w.cell? ⟨b, off + j, none⟩ = some u

theorem Sl.below {w w' : World} {size n cap : Nat} {A : Option Addr} {xs : List Value} (h : Sl w size A n cap xs) (hb : Below w.heap.size w w') : Sl w' size A n cap xs :=
  ⟨h.len, h.hcap, h.hmax, fun hn => by
    obtain ⟨b, off, hA, hlt, hc⟩ := h.cells hn
    exact ⟨b, off, hA, Nat.lt_of_lt_of_le hlt hb.size, fun j u hu => (hb.cell (p := ⟨b, off + j, none⟩) hlt).trans (hc j u hu)⟩⟩

theorem Sl.cut {w : World} {size n cap : Nat} {A : Option Addr} {xs : List Value} (h : Sl w size A n cap xs) {lo hi : Nat} (hlo : lo ≤ hi) (hhi : hi ≤ n) (_hs : 0 < size) :
    Sl w size (if cap = lo then A else A.map (·.add (lo * size))) (hi - lo) (cap - lo) ((xs.drop (lo * size)).take ((hi - lo) * size)) := by
  have h1 := h.hcap
  have h2 := h.hmax
  have h3 := h.len
  have hle : lo * size + (hi - lo) * size ≤ n * size := by rw [← Nat.add_mul]; exact Nat.mul_le_mul_right _ (by omega)
  refine ⟨by rw [List.length_take, List.length_drop, h3]; omega, by omega, by omega, fun hn => ?_⟩
  obtain ⟨b, off, rfl, hlt, hc⟩ := h.cells (by omega)
  rw [if_neg (by omega)]
  refine ⟨b, off + lo * size, by simp [Addr.add], hlt, fun j u hu => ?_⟩
  rw [List.getElem?_take] at hu
  split at hu
  · rw [List.getElem?_drop] at hu
    have := hc _ u hu
    rwa [← Nat.add_assoc] at this
  · cases hu

theorem Sl.of_own {w : World} {base size n : Nat} {e : TypeId} {v : Value} {xs : List Value} (h : w.ownsRow base e size v n xs) (_hs : 0 < size) : ∃ A cap, v = .slice A n cap ∧ Sl w size A n cap xs := by
  rcases h.2 with ⟨rfl, rfl⟩ | ⟨g, cap, cur, rfl, hb, hg, h1, h2, h3, h4⟩
  · exact ⟨none, 0, rfl, by have := h.1; simpa using this, Nat.le_refl _, by simp [maxLen], fun h => absurd h (by omega)⟩
  · refine ⟨some ⟨g, 0, none⟩, cap, rfl, h.1, h1, h2, fun _ => ⟨g, 0, rfl, (Array.getElem?_eq_some_iff.1 hg).1, fun j u hu => ?_⟩⟩
    rw [Nat.zero_add, cell_of_row w g j cur e (0, 0) hg]
    rw [← h4, List.getElem?_take] at hu
    split at hu
    · simpa using hu
    · cases hu

/-! ### cells -/
theorem flatC_len (cs : List C) : (flatC cs).length = cs.length * 3 := by
  induction cs with
  | nil => rfl
  | cons c cs ih => simp [flatC, C.flat] at ih ⊢; omega
theorem flatC_append (a b : List C) : flatC (a ++ b) = flatC a ++ flatC b := by simp [flatC]
theorem flatC_drop (cs : List C) (k : Nat) : (flatC cs).drop (k * 3) = flatC (cs.drop k) := by
  induction cs generalizing k with
  | nil => simp [flatC]
  | cons c cs ih =>
    cases k with
    | zero => simp
    | succ k =>
      have := ih k
      rw [Nat.succ_mul]
      simp [flatC, C.flat] at this ⊢
      exact this
theorem flatC_take (cs : List C) (k : Nat) : (flatC cs).take (k * 3) = flatC (cs.take k) := by
  induction cs generalizing k with
  | nil => simp [flatC]
  | cons c cs ih =>
    cases k with
    | zero => simp [flatC]
    | succ k =>
      have := ih k
      rw [Nat.succ_mul]
      simp [flatC, C.flat] at this ⊢
      exact this
theorem flatC_get (cs : List C) (k : Nat) (c : C) (h : cs[k]? = some c) :
    (flatC cs)[k * 3]? = some (.int .i64 c.kind) ∧ (flatC cs)[k * 3 + 1]? = some (.string c.name) ∧ (flatC cs)[k * 3 + 2]? = some (.int .i64 c.n) := by
  induction cs generalizing k with
  | nil => simp at h
  | cons d cs ih =>
    cases k with
    | zero => simp at h; subst h; simp [flatC, C.flat]
    | succ k =>
      have := ih k (by simpa using h)
      rw [Nat.succ_mul]
      simp [flatC, C.flat] at this ⊢
      exact this

structure IsC (w : World) (A : Option Addr) (n cap : Nat) (cs : List C) : Prop where
  sl : Sl w 3 A n cap (flatC cs)
  wf : ∀ c ∈ cs, c.wf
theorem IsC.len {w : World} {A : Option Addr} {n cap : Nat} {cs : List C} (h : IsC w A n cap cs) : cs.length = n := by
  have := h.sl.len
  rw [flatC_len] at this
  omega
theorem IsC.below {w w' : World} {A : Option Addr} {n cap : Nat} {cs : List C} (h : IsC w A n cap cs) (hb : Below w.heap.size w w') : IsC w' A n cap cs := ⟨h.sl.below hb, h.wf⟩
theorem IsC.at_ {w : World} {A : Option Addr} {n cap : Nat} {cs : List C} (h : IsC w A n cap cs) {k : Nat} {c : C} (hk : cs[k]? = some c) :
    ∃ b off, A = some ⟨b, off, none⟩ ∧ b < w.heap.size ∧ c.wf ∧ w.cell? ⟨b, off + k * 3, none⟩ = some (.int .i64 c.kind) ∧ w.cell? ⟨b, off + k * 3 + 1, none⟩ = some (.string c.name) ∧ w.cell? ⟨b, off + k * 3 + 2, none⟩ = some (.int .i64 c.n) := by
  have hlt : k < cs.length := (List.getElem?_eq_some_iff.1 hk).1
  obtain ⟨b, off, rfl, hb, hc⟩ := h.sl.cells (by have := h.len; omega)
  obtain ⟨h0, h1, h2⟩ := flatC_get cs k c hk
  exact ⟨b, off, rfl, hb, h.wf c (List.mem_of_getElem? hk), hc _ _ h0, hc _ _ h1, hc _ _ h2⟩
theorem IsC.open_ {w : World} {A : Option Addr} {n cap : Nat} {cs : List C} (h : IsC w A n cap cs) (hn : 0 < n) :
    ∃ b off, A = some ⟨b, off, none⟩ ∧ b < w.heap.size ∧ ∀ (k : Nat) (c : C), cs[k]? = some c → w.cell? ⟨b, off + k * 3, none⟩ = some (.int .i64 c.kind) ∧ w.cell? ⟨b, off + k * 3 + 1, none⟩ = some (.string c.name) ∧ w.cell? ⟨b, off + k * 3 + 2, none⟩ = some (.int .i64 c.n) := by
  obtain ⟨b, off, rfl, hb, hc⟩ := h.sl.cells hn
  refine ⟨b, off, rfl, hb, fun k c hk => ?_⟩
  obtain ⟨h0, h1, h2⟩ := flatC_get cs k c hk
  exact ⟨hc _ _ h0, hc _ _ h1, hc _ _ h2⟩
theorem IsC.get {w : World} {A : Option Addr} {n cap : Nat} {cs : List C} (h : IsC w A n cap cs) {k : Nat} (hk : k < n) : ∃ c, cs[k]? = some c :=
  ⟨_, List.getElem?_eq_getElem (by have := h.len; omega)⟩
theorem IsC.cut {w : World} {A : Option Addr} {n cap : Nat} {cs : List C} (h : IsC w A n cap cs) {lo hi : Nat} (hlo : lo ≤ hi) (hhi : hi ≤ n) :
    IsC w (if cap = lo then A else A.map (·.add (lo * 3))) (hi - lo) (cap - lo) ((cs.drop lo).take (hi - lo)) := by
  refine ⟨?_, fun c hc => h.wf c (List.mem_of_mem_drop (List.mem_of_mem_take hc))⟩
  have := h.sl.cut hlo hhi (by omega)
  rwa [flatC_drop, flatC_take] at this
theorem IsC.cut' {w : World} {b off n cap : Nat} {cs : List C} (h : IsC w (some ⟨b, off, none⟩) n cap cs) {lo hi : Nat} (hlo : lo ≤ hi) (hhi : hi ≤ n) (hc : ¬ cap = lo) :
    IsC w (some ⟨b, off + lo * 3, none⟩) (hi - lo) (cap - lo) ((cs.drop lo).take (hi - lo)) := by
  have := h.cut hlo hhi
  rw [if_neg hc] at this
  have e : (⟨b, off, none⟩ : Addr).add (lo * 3) = ⟨b, off + lo * 3, none⟩ := by unfold Addr.add; split <;> simp_all
  simpa [e] using this
theorem IsC.take {w : World} {A : Option Addr} {n cap : Nat} {cs : List C} (h : IsC w A n cap cs) {m : Nat} (hm : m ≤ n) : IsC w A m cap (cs.take m) := by
  have h1 := h.sl.hcap
  have h3 := h.len
  refine ⟨⟨by rw [flatC_len, List.length_take]; omega, by omega, h.sl.hmax, fun hn => ?_⟩, fun c hc => h.wf c (List.mem_of_mem_take hc)⟩
  obtain ⟨b, off, rfl, hb, hc⟩ := h.sl.cells (by omega)
  refine ⟨b, off, rfl, hb, fun j u hu => hc j u ?_⟩
  rw [← flatC_take, List.getElem?_take] at hu
  split at hu
  · exact hu
  · cases hu
theorem IsC.nil (w : World) (A : Option Addr) (cap : Nat) (h : cap ≤ maxLen) : IsC w A 0 cap [] := ⟨⟨rfl, Nat.zero_le _, h, fun h => absurd h (by omega)⟩, by simp⟩

/-! ### numbers -/
structure IsI (w : World) (A : Option Addr) (n cap : Nat) (ns : List Int) : Prop where
  sl : Sl w 1 A n cap (ns.map (Value.int .i64))
  wf : ∀ x ∈ ns, i64 x
theorem IsI.len {w : World} {A : Option Addr} {n cap : Nat} {ns : List Int} (h : IsI w A n cap ns) : ns.length = n := by
  have := h.sl.len
  rw [List.length_map] at this
  omega
theorem IsI.below {w w' : World} {A : Option Addr} {n cap : Nat} {ns : List Int} (h : IsI w A n cap ns) (hb : Below w.heap.size w w') : IsI w' A n cap ns := ⟨h.sl.below hb, h.wf⟩
theorem IsI.at_ {w : World} {A : Option Addr} {n cap : Nat} {ns : List Int} (h : IsI w A n cap ns) {k : Nat} {x : Int} (hk : ns[k]? = some x) :
    ∃ b off, A = some ⟨b, off, none⟩ ∧ b < w.heap.size ∧ i64 x ∧ w.cell? ⟨b, off + k, none⟩ = some (.int .i64 x) := by
  have hlt : k < ns.length := (List.getElem?_eq_some_iff.1 hk).1
  obtain ⟨b, off, rfl, hb, hc⟩ := h.sl.cells (by have := h.len; omega)
  exact ⟨b, off, rfl, hb, h.wf x (List.mem_of_getElem? hk), hc _ _ (by rw [List.getElem?_map, hk]; rfl)⟩
theorem IsI.open_ {w : World} {A : Option Addr} {n cap : Nat} {ns : List Int} (h : IsI w A n cap ns) (hn : 0 < n) :
    ∃ b off, A = some ⟨b, off, none⟩ ∧ b < w.heap.size ∧ ∀ (k : Nat) (x : Int), ns[k]? = some x → w.cell? ⟨b, off + k, none⟩ = some (.int .i64 x) := by
  obtain ⟨b, off, rfl, hb, hc⟩ := h.sl.cells hn
  exact ⟨b, off, rfl, hb, fun k x hk => hc _ _ (by rw [List.getElem?_map, hk]; rfl)⟩
theorem IsI.get {w : World} {A : Option Addr} {n cap : Nat} {ns : List Int} (h : IsI w A n cap ns) {k : Nat} (hk : k < n) : ∃ x, ns[k]? = some x :=
  ⟨_, List.getElem?_eq_getElem (by have := h.len; omega)⟩
theorem IsI.nil (w : World) (A : Option Addr) (cap : Nat) (h : cap ≤ maxLen) : IsI w A 0 cap [] := ⟨⟨rfl, Nat.zero_le _, h, fun h => absurd h (by omega)⟩, by simp⟩

/-! ### rows of cells -/
structure IsCC (w : World) (A : Option Addr) (n cap : Nat) (ts : List (List C)) : Prop where
  len : ts.length = n
  rows : ∃ vs : List Value, Sl w 1 A n cap vs ∧ ∀ (i : Nat) (t : List C), ts[i]? = some t → ∃ A' n' cap', vs[i]? = some (Value.slice A' n' cap') ∧ IsC w A' n' cap' t
theorem IsCC.below {w w' : World} {A : Option Addr} {n cap : Nat} {ts : List (List C)} (h : IsCC w A n cap ts) (hb : Below w.heap.size w w') : IsCC w' A n cap ts := by
  refine ⟨h.len, ?_⟩
  obtain ⟨vs, hs, hr⟩ := h.rows
  exact ⟨vs, hs.below hb, fun i t hi => by obtain ⟨A', n', cap', hv, hc⟩ := hr i t hi; exact ⟨A', n', cap', hv, hc.below hb⟩⟩
theorem IsCC.at_ {w : World} {A : Option Addr} {n cap : Nat} {ts : List (List C)} (h : IsCC w A n cap ts) {k : Nat} {t : List C} (hk : ts[k]? = some t) :
    ∃ b off A' n' cap', A = some ⟨b, off, none⟩ ∧ b < w.heap.size ∧ w.cell? ⟨b, off + k, none⟩ = some (.slice A' n' cap') ∧ IsC w A' n' cap' t := by
  have hlt : k < ts.length := (List.getElem?_eq_some_iff.1 hk).1
  obtain ⟨vs, hs, hr⟩ := h.rows
  obtain ⟨b, off, rfl, hb, hc⟩ := hs.cells (by have := h.len; omega)
  obtain ⟨A', n', cap', hv, hcc⟩ := hr k t hk
  exact ⟨b, off, A', n', cap', rfl, hb, hc _ _ hv, hcc⟩
theorem IsCC.get {w : World} {A : Option Addr} {n cap : Nat} {ts : List (List C)} (h : IsCC w A n cap ts) {k : Nat} (hk : k < n) : ∃ t, ts[k]? = some t :=
  ⟨_, List.getElem?_eq_getElem (by have := h.len; omega)⟩

/-! ### draws -/
theorem below_drewN {B : Nat} {a w : World} (h : Below B a w) (n : Nat) : Below B a (w.drewN n) := ⟨h.os, h.tape, h.output, h.size, h.block⟩
theorem quiet_add {P : Program} {f : FuncId} {args : Array Value} {w : World} {a n : Nat} {v : Value}
    (h : Calls P f args (w.drewN (a + n)) fun e w' => e = .returned v ∧ ∃ m, w' = (w.drewN (a + n)).drewN m) :
    Calls P f args (w.drewN (a + n)) fun e w'' => e = .returned v ∧ ∃ m, w'' = w.drewN (a + m) :=
  h.mono fun _ _ ⟨he, m, hm⟩ => ⟨he, n + m, by rw [hm, World.drewN_drewN, Nat.add_assoc]⟩
theorem quiet_add_left {P : Program} {f : FuncId} {args : Array Value} {w : World} {a n : Nat} {v : Value}
    (h : Calls P f args (w.drewN (a + n)) fun e w' => e = .returned v ∧ w.drewN (a + n) = w') :
    Calls P f args (w.drewN (a + n)) fun e w'' => e = .returned v ∧ ∃ m, w'' = w.drewN (a + m) :=
  h.mono fun _ _ ⟨he, hm⟩ => ⟨he, n, hm.symm⟩
/-! ### what a call hands back -/
def RetD (w : World) (v : Value) (e : Ending) (w' : World) : Prop := e = .returned v ∧ ∃ n, w' = w.drewN n
def RetV (w : World) (v : Value) (e : Ending) (w' : World) : Prop := e = .returned v ∧ Below w.heap.size w w'
def RetC (w : World) (cs : List C) (e : Ending) (w' : World) : Prop := ∃ A n cap, e = .returned (.slice A n cap) ∧ IsC w' A n cap cs ∧ Below w.heap.size w w'
def RetI (w : World) (ns : List Int) (e : Ending) (w' : World) : Prop := ∃ A n cap, e = .returned (.slice A n cap) ∧ IsI w' A n cap ns ∧ Below w.heap.size w w'
def RetCC (w : World) (ts : List (List C)) (e : Ending) (w' : World) : Prop := ∃ A n cap, e = .returned (.slice A n cap) ∧ IsCC w' A n cap ts ∧ Below w.heap.size w w'
theorem RetC.at_ {w : World} {cs : List C} {e : Ending} {w' : World} (h : RetC w cs e w') {n : Nat} (hl : cs.length = n) : ∃ A cap, e = .returned (.slice A n cap) ∧ IsC w' A n cap cs ∧ Below w.heap.size w w' := by
  obtain ⟨A, m, cap, he, hi, hb⟩ := h
  obtain rfl : m = n := by rw [← hi.len, hl]
  exact ⟨A, cap, he, hi, hb⟩
theorem RetI.at_ {w : World} {cs : List Int} {e : Ending} {w' : World} (h : RetI w cs e w') {n : Nat} (hl : cs.length = n) : ∃ A cap, e = .returned (.slice A n cap) ∧ IsI w' A n cap cs ∧ Below w.heap.size w w' := by
  obtain ⟨A, m, cap, he, hi, hb⟩ := h
  obtain rfl : m = n := by rw [← hi.len, hl]
  exact ⟨A, cap, he, hi, hb⟩
theorem RetD.v {w : World} {v : Value} {e : Ending} {w' : World} (h : RetD w v e w') : RetV w v e w' := by
  obtain ⟨h, n, rfl⟩ := h
  exact ⟨h, below_drewN (Below.refl _ _) n⟩
theorem IsC.drewN {w : World} {A : Option Addr} {n cap : Nat} {cs : List C} (h : IsC w A n cap cs) (d : Nat) : IsC (w.drewN d) A n cap cs := h.below (below_drewN (Below.refl _ _) d)
theorem IsI.drewN {w : World} {A : Option Addr} {n cap : Nat} {cs : List Int} (h : IsI w A n cap cs) (d : Nat) : IsI (w.drewN d) A n cap cs := h.below (below_drewN (Below.refl _ _) d)
theorem ret_int {k : IntKind} {a b : Int} (h : a = b) : Ending.returned (.int k a) = .returned (.int k b) := by rw [h]
theorem ret_bool {a b : Bool} (h : a = b) : Ending.returned (.bool a) = .returned (.bool b) := by rw [h]
end Go.Proofs.Ytlndjooddkjnoaa

/- Terms as rows of cells, in plain words: which cells and names may be, and how a term is passed over. No program in sight. -/
namespace Go.Proofs.Ytlndjooddkjnoaa
open Go.RowKit

def oddB (b : UInt8) : Bool := decide (b.toNat < 32) || (decide (126 < b.toNat) || b.toNat == 39)
def okName (s : ByteArray) : Bool := !(s.data.toList.any oddB) && (decide (1 ≤ s.size) && decide (s.size ≤ 12))
def C.ok (c : C) : Bool :=
  if c.kind = 1 then decide (c.name.toList = []) && (decide (0 ≤ c.n) && decide (c.n ≤ 999))
  else if c.kind = 2 then decide (c.name.toList = []) && (decide (-2147483647 ≤ c.n) && decide (c.n ≤ 2147483647))
  else if c.kind = 3 then okName c.name && (decide (0 ≤ c.n) && decide (c.n ≤ 6))
  else false
def oddR (r : Int) : Bool := decide (r < 32) || (decide (126 < r) || r == 39)

theorem oddB_yes {b : UInt8} (h : (b.toNat : Int) < 32 ∨ 126 < (b.toNat : Int) ∨ (b.toNat : Int) = 39) : oddB b = true := by
  have h' : b.toNat < 32 ∨ 126 < b.toNat ∨ b.toNat = 39 := by omega
  simpa [oddB] using h'
theorem oddB_no {b : UInt8} (h1 : 32 ≤ (b.toNat : Int)) (h2 : (b.toNat : Int) ≤ 126) (h3 : (b.toNat : Int) ≠ 39) : oddB b = false := by
  have h1' : 32 ≤ b.toNat := by omega
  have h2' : b.toNat ≤ 126 := by omega
  have h3' : b.toNat ≠ 39 := by omega
  simp [oddB]; omega

theorem drop_cons (s : ByteArray) (k : Nat) (h : k < s.size) : s.data.toList.drop k = s[k] :: s.data.toList.drop (k + 1) := by
  rw [List.drop_eq_getElem_cons (by simpa using h)]
  rfl
theorem any_drop (p : UInt8 → Bool) (s : ByteArray) (k : Nat) (h : k < s.size) : (s.data.toList.drop k).any p = (p s[k] || (s.data.toList.drop (k + 1)).any p) := by
  rw [drop_cons s k h]; rfl

theorem decode_lt (s : ByteArray) (i : Nat) (hi : i < s.size) (h : s[i].toNat < 128) : Utf8.decode s i = (s[i].toNat, 1) := by
  have hg : s.get! i = s[i] := by simp [ByteArray.get!, getElem!_pos, hi]; rfl
  simp [Utf8.decode, hg, h]
theorem decode_ge (s : ByteArray) (i : Nat) (hi : i < s.size) (h : 128 ≤ s[i].toNat) : 128 ≤ (Utf8.decode s i).1 ∧ (Utf8.decode s i).1 ≤ 2147483647 ∧ 1 ≤ (Utf8.decode s i).2 := by
  have hg : s.get! i = s[i] := by simp [ByteArray.get!, getElem!_pos, hi]; rfl
  have e : ∀ k, (s.get! k).toNat < 256 := fun k => UInt8.toNat_lt _
  have e1 := e (i + 1)
  have e2 := e (i + 2)
  have e3 := e (i + 3)
  have e0 : s[i].toNat < 256 := UInt8.toNat_lt _
  simp only [Utf8.decode, Nat.add_zero, hg, Utf8.runeError]
  repeat' split
  all_goals first | omega | (dsimp only; omega) | (simp; omega) | (simp at *; omega)

/-- the runes of a string: one of them is odd just if one of its bytes is -/
theorem runes_odd (s : ByteArray) : ∀ (bound i : Nat) (acc : Array Value), s.size ≤ bound + i →
    ∃ rs : List Int, (Conv.runesFrom s bound i acc).toList = acc.toList ++ rs.map (Value.int .i32) ∧ (∀ r ∈ rs, -2147483648 ≤ r ∧ r ≤ 2147483647) ∧ rs.length ≤ bound ∧ rs.any oddR = (s.data.toList.drop i).any oddB := by
  intro bound
  induction bound with
  | zero =>
    intro i acc h
    refine ⟨[], by simp [Conv.runesFrom], by simp, by simp, ?_⟩
    rw [List.drop_of_length_le (by simp; omega)]
    rfl
  | succ bound ih =>
    intro i acc h
    by_cases hi : i < s.size
    · unfold Conv.runesFrom
      simp only [hi, if_true]
      by_cases hb : s[i].toNat < 128
      · rw [decode_lt s i hi hb]
        obtain ⟨rs, h1, h2, h3, h4⟩ := ih (i + 1) (acc.push (.int .i32 (Int.ofNat s[i].toNat))) (by omega)
        refine ⟨(s[i].toNat : Int) :: rs, by simpa using h1, ?_, by simpa using h3, ?_⟩
        · intro r hr
          rcases List.mem_cons.1 hr with rfl | hr
          · omega
          · exact h2 r hr
        · rw [any_drop oddB s i hi, List.any_cons, h4]
          congr 1
          simp only [oddR, oddB]
          congr 1
          · exact decide_eq_decide.2 (by omega)
          · congr 1
            · exact decide_eq_decide.2 (by omega)
            · rw [Bool.eq_iff_iff]; simp; omega
      · obtain ⟨g1, g2, g3⟩ := decode_ge s i hi (by omega)
        obtain ⟨rs, h1, h2, h3, h4⟩ := ih (i + (Utf8.decode s i).2) (acc.push (.int .i32 (Int.ofNat (Utf8.decode s i).1))) (by omega)
        refine ⟨((Utf8.decode s i).1 : Int) :: rs, by simpa using h1, ?_, by simpa using h3, ?_⟩
        · intro r hr
          rcases List.mem_cons.1 hr with rfl | hr
          · omega
          · exact h2 r hr
        · rw [any_drop oddB s i hi, List.any_cons, oddB_yes (by omega)]
          have : oddR ((Utf8.decode s i).1 : Int) = true := by
            have : 126 < ((Utf8.decode s i).1 : Int) := by omega
            simp [oddR, this]
          rw [this]; rfl
    · refine ⟨[], by unfold Conv.runesFrom; simp [hi], by simp, by simp, ?_⟩
      rw [List.drop_of_length_le (by simp; omega)]
      rfl

def idxF {α : Type} (p : α → Bool) : Nat → List α → Int
  | _, [] => -1
  | k, x :: l => if p x then k else idxF p (k + 1) l
theorem idxF_any {α : Type} (p : α → Bool) (l : List α) : ∀ k : Nat, decide (0 ≤ idxF p k l) = l.any p := by
  induction l with
  | nil => intro k; simp [idxF]
  | cons x l ih =>
    intro k
    by_cases h : p x
    · simp [idxF, h]
    · simp [idxF, h, ih (k + 1)]
theorem idxF_le {α : Type} (p : α → Bool) (l : List α) : ∀ k : Nat, -1 ≤ idxF p k l ∧ idxF p k l < k + l.length := by
  induction l with
  | nil => intro k; simp [idxF]; omega
  | cons x l ih =>
    intro k
    have := ih (k + 1)
    by_cases h : p x
    · simp [idxF, h]; omega
    · simp [idxF, h]; omega
end Go.Proofs.Ytlndjooddkjnoaa

/- Laws of the walk for operations that make memory, each in the form that the walk takes. No program in sight. -/
namespace Go.Proofs.Ytlndjooddkjnoaa
open Go.RowKit

structure IsR (w : World) (A : Option Addr) (n cap : Nat) (rs : List Int) : Prop where
  sl : Sl w 1 A n cap (rs.map (Value.int .i32))
  wf : ∀ x ∈ rs, -2147483648 ≤ x ∧ x ≤ 2147483647
theorem IsR.len {w : World} {A : Option Addr} {n cap : Nat} {rs : List Int} (h : IsR w A n cap rs) : rs.length = n := by
  have := h.sl.len
  rw [List.length_map] at this
  omega
theorem IsR.at_ {w : World} {A : Option Addr} {n cap : Nat} {rs : List Int} (h : IsR w A n cap rs) {k : Nat} {x : Int} (hk : rs[k]? = some x) :
    ∃ b off, A = some ⟨b, off, none⟩ ∧ b < w.heap.size ∧ (-2147483648 ≤ x ∧ x ≤ 2147483647) ∧ w.cell? ⟨b, off + k, none⟩ = some (.int .i32 x) := by
  have hlt : k < rs.length := (List.getElem?_eq_some_iff.1 hk).1
  obtain ⟨b, off, rfl, hb, hc⟩ := h.sl.cells (by have := h.len; omega)
  exact ⟨b, off, rfl, hb, h.wf x (List.mem_of_getElem? hk), hc _ _ (by rw [List.getElem?_map, hk]; rfl)⟩
theorem IsR.get {w : World} {A : Option Addr} {n cap : Nat} {rs : List Int} (h : IsR w A n cap rs) {k : Nat} (hk : k < n) : ∃ x, rs[k]? = some x :=
  ⟨_, List.getElem?_eq_getElem (by have := h.len; omega)⟩

section
variable {P : Program} {w : World} {ops : Array Oper} {rest : List Oper} {o : Oper} {a : Act} {Q : Exit → Act → World → Prop}

/-- an operation whose run is known: the walk goes on behind it -/
theorem wpList_run (hw : Region.wanted o (yielded ops a.tmps) = true) {Φ : Value → World → Prop} (hr : ∃ v w', (execOp a.eval o).run P w = .ok (.value v) w' ∧ Φ v w')
    (k : ∀ v w', Φ v w' → wpList P ops Q rest (a.put o.dst v) w') : wpList P ops Q (o :: rest) a w := by
  obtain ⟨v, w', hr, hp⟩ := hr
  refine wpList_step fun K hK => ?_
  rw [if_pos hw]
  unfold Oper.wp
  rw [hr]
  exact hK _ _ (k v w' hp)

theorem run_convert_op {x : Operand} {src dst : TypeId} {v u : Value} {w' : World} (hop : o.op = Op.convert src dst x) (hx : a.eval x = v) (hr : (convert src dst v).run P w = .ok u w') : (execOp a.eval o).run P w = .ok (.value u) w' := by
  simp only [execOp, hop, hx, Sem.run_bind, hr, Result.andThen_ok, Sem.run_pure]
/-- '[]rune(s)' -/
theorem wpList_runes (hw : Region.wanted o (yielded ops a.tmps) = true) (x : Operand) (src dst e : TypeId) (hop : o.op = Op.convert src dst x)
    (hs : P.underlying src = some .string) (hd : P.underlying dst = some (.slice e)) (he : P.underlying e = some (.int .i32)) (s : ByteArray) (hx : a.eval x = .string s) (hsz : s.size ≤ 100000)
    (k : ∀ A n cap w' rs, Below w.heap.size w w' → IsR w' A n cap rs → n ≤ 100000 → rs.any oddR = s.data.toList.any oddB → wpList P ops Q rest (a.put o.dst (.slice A n cap)) w') : wpList P ops Q (o :: rest) a w := by
  obtain ⟨rs, h1, h2, h3, h4⟩ := runes_odd s s.size 0 #[] (by omega)
  have h1' : (Conv.runesFrom s s.size 0 #[]).toList = rs.map (Value.int .i32) := by simpa using h1
  have hl : (Conv.runesFrom s s.size 0 #[]).size = rs.length := by rw [← Array.length_toList, h1', List.length_map]
  have hrun := run_runes_of_string (P := P) w src dst e s hs hd he (by omega)
  have hrun' := run_convert_op hop hx hrun
  refine wpList_run (Φ := fun v w' => ∃ A n cap, v = .slice A n cap ∧ Below w.heap.size w w' ∧ IsR w' A n cap rs ∧ n ≤ 100000) hw ⟨_, _, hrun', _, _, _, rfl, ?_, ⟨⟨?_, ?_, ?_, fun _ => ⟨_, 0, rfl, ?_, ?_⟩⟩, h2⟩, by omega⟩ ?_
  · exact ((Below.refl _ _).drew).alloc (Nat.le_refl _) _
  · simpa using hl.symm
  · exact grownCap_ge _ _ _ _
  · exact grownCap_le_maxLen _ _ _ _ (by simp only [maxLen]; omega)
  · simp
  · intro j u hu
    have hj : j < rs.length := by
      have := (List.getElem?_eq_some_iff.1 hu).1
      simpa using this
    have hc : ∀ (C : Array Value), C[j]? = some u → (w.drew.alloc (.cells C e)).cell? ⟨w.heap.size, j, none⟩ = some u := fun C hC => by
      have := World.cell?_alloc_mark w.drew C e (0, 0) j
      exact this.trans hC
    rw [Nat.zero_add]
    apply hc
    rw [Array.getElem?_append_left (by omega), ← Array.getElem?_toList, h1', hu]
  · rintro v w' ⟨A, n, cap, rfl, hb, hi, hn⟩
    exact k A n cap w' rs hb hi hn (by simpa using h4)

theorem run_append_of_nil (base : Nat) (t ty e : TypeId) (i : TypeInfo) (size : Nat) (ht : P.underlying t = some (.slice e)) (hi : P.info? e = some i)
    (v : Value) (n : Nat) (xs : List Value) (hown : w.ownsRow base e size v n xs) (c : Nat) : (Builtin.append_ #[t, t] ty #[v, .slice none 0 c]).run P w = .ok v w := by
  rcases hown.2 with ⟨rfl, rfl⟩ | ⟨g, cap, cur, rfl, _, _, hnc, _⟩
  · simp [Builtin.append_, run_underlying ht, sizeOf, typeInfo, hi, Builtin.lenOf, Builtin.firstCells]
  · simp [Builtin.append_, run_underlying ht, sizeOf, typeInfo, hi, Builtin.lenOf, Builtin.firstCells, hnc, storeCells]

theorem run_append_sl (base : Nat) (t ty e : TypeId) (i : TypeInfo) (z : Value) (size bytes : Nat) (ht : P.underlying t = some (.slice e)) (hi : P.info? e = some i) (hz : i.zero = some z)
    (hsize : i.size = size) (hby : i.bytes = bytes) (hzs : z.cells.size = size) (hsz : 0 < size)
    (v : Value) (n : Nat) (xs : List Value) (hown : w.ownsRow base e size v n xs)
    (A : Option Addr) (m c : Nat) (news : List Value) (hr : Sl w size A m c news) (h1 : ∀ u ∈ news, u.oneCell' = true)
    (h63 : n + m ≤ maxLen) (hbytes : (n + m) * bytes ≤ 140737488355328) (hbase : base ≤ w.heap.size) :
    ∃ v' w', (Builtin.append_ #[t, t] ty #[v, .slice A m c]).run P w = .ok v' w' ∧ w'.ownsRow base e size v' (n + m) (xs ++ news) ∧ w.grownBy w' v.ownBlock ∧
      (v'.ownBlock = v.ownBlock ∨ v'.ownBlock = some w.heap.size) := by
  rcases A with _ | ad
  · have hm : m = 0 := by
      rcases Nat.eq_zero_or_pos m with h0 | h0
      · exact h0
      · obtain ⟨b, off, h, _⟩ := hr.cells h0
        cases h
    subst hm
    have hn : news = [] := List.eq_nil_of_length_eq_zero (by simpa using hr.len)
    subst hn
    exact ⟨v, w, run_append_of_nil base t ty e i size ht hi v n xs hown c, by simpa using hown, World.grownBy.refl w _, .inl rfl⟩
  · have hcells : ∀ j u, news[j]? = some u → w.cell? (ad.add j) = some u := by
      intro j u hu
      rcases Nat.eq_zero_or_pos m with h0 | h0
      · subst h0
        have hn : news = [] := List.eq_nil_of_length_eq_zero (by simpa using hr.len)
        subst hn
        simp at hu
      · obtain ⟨b, off, h, _, hc⟩ := hr.cells h0
        injection h with h
        subst h
        have hadd : (⟨b, off, none⟩ : Addr).add j = ⟨b, off + j, none⟩ := by unfold Addr.add; split <;> simp_all
        rw [hadd]
        exact hc j u hu
    obtain ⟨v', w', hrun, h2, h3, _, h5⟩ := run_append_own_at (P := P) w base t ty e i z size bytes ht hi hz hsize hby hzs hsz v n xs hown ad m c news hr.len hcells h1 h63 hbytes hbase
    exact ⟨v', w', hrun, h2, h3, h5⟩

/-- 'append(s, x...)', s a row of the call's own, x whatever reads as a list -/
theorem wpList_append_sl (hw : Region.wanted o (yielded ops a.tmps) = true) (s x : Operand) (t : TypeId) (ho : o.op = .call { callee := .builtin .append, args := #[s, x], argTypes := #[t, t] })
    (base : Nat) (e : TypeId) {z : Value} {size bytes : Nat} (ht : P.underlying t = some (.slice e)) (hinfo : (P.info? e).map (fun i => (i.zero, i.size, i.bytes)) = some (some z, size, bytes))
    (hzs : z.cells.size = size) (hsz : 0 < size) {v : Value} {n : Nat} {xs : List Value} (hs : a.eval s = v) (hown : w.ownsRow base e size v n xs)
    {A : Option Addr} {m c : Nat} {news : List Value} (hx : a.eval x = .slice A m c) (hr : Sl w size A m c news) (h1 : ∀ u ∈ news, u.oneCell' = true)
    (h63 : n + m ≤ 1000000000000) (hbyt : bytes ≤ 64) (hbase : base ≤ w.heap.size)
    (k : ∀ A' cap' w', w'.ownsRow base e size (.slice A' (n + m) cap') (n + m) (xs ++ news) → Below base w w' → w.grownBy w' v.ownBlock → ((Value.slice A' (n + m) cap').ownBlock = v.ownBlock ∨ (Value.slice A' (n + m) cap').ownBlock = some w.heap.size) → wpList P ops Q rest (a.put o.dst (.slice A' (n + m) cap')) w') :
    wpList P ops Q (o :: rest) a w := by
  obtain ⟨i, hi, hz, hsize, hby⟩ := info_parts hinfo
  obtain ⟨v', w', hrun, h2, h3, h4⟩ := run_append_sl (P := P) base t o.type e i z size bytes ht hi hz hsize hby hzs hsz v n xs hown A m c news hr h1 (by simp only [maxLen]; omega)
    (by have : (n + m) * bytes ≤ 1000000000000 * 64 := Nat.mul_le_mul h63 hbyt; omega) hbase
  have hlt := hown.lt
  refine wpList_run (Φ := fun v' w' => w'.ownsRow base e size v' (n + m) (xs ++ news) ∧ w.grownBy w' v.ownBlock ∧ (v'.ownBlock = v.ownBlock ∨ v'.ownBlock = some w.heap.size)) hw ⟨v', w', ?_, h2, h3, h4⟩ ?_
  · simp only [execOp, ho, resolve, invoke, builtin, Sem.run_bind, Sem.run_pure, Result.andThen_ok, List.map_toArray, List.map_cons, List.map_nil, hs, hx, hrun]
  · rintro v2 w2 ⟨g1, g2, g3⟩
    obtain ⟨A', cap', rfl, _⟩ := Sl.of_own g1 hsz
    exact k A' cap' w2 g1 ((Below.refl base w).grown g2 hbase (fun q hq => (hlt q hq).1)) g2 g3
end
theorem Sl.own {w : World} {base size n cap : Nat} {e : TypeId} {A : Option Addr} {xs : List Value} (h : w.ownsRow base e size (.slice A n cap) n xs) (hs : 0 < size) : Sl w size A n cap xs := by
  obtain ⟨A', cap', he, h⟩ := Sl.of_own h hs
  injection he with h1 h2 h3
  subst h1
  subst h3
  exact h
/-- a slice literal that has just been made -/
theorem Sl.lit (w : World) (g : Nat) (cs : List Value) (t : TypeId) (size n : Nat) (hg : w.heap.size = g) (hl : cs.length = n * size) (hn : n ≤ maxLen) : Sl (w.alloc (.cells cs.toArray t)) size (some ⟨g, 0, none⟩) n n cs :=
  ⟨hl, Nat.le_refl _, hn, fun _ => ⟨_, 0, rfl, by simp [hg], fun j u hu => by
    rw [Nat.zero_add, ← hg]
    exact (World.cell?_alloc_mark w cs.toArray t (0, 0) j).trans (by simpa using hu)⟩⟩
theorem one1 {u : Value} (h : u.oneCell' = true) : ∀ x ∈ [u], x.oneCell' = true := by simpa using h
theorem own_below {w w' : World} {base : Nat} {e : TypeId} {size : Nat} {v : Value} {n : Nat} {xs : List Value} (h : w.ownsRow base e size v n xs) (hb : Below w.heap.size w w') : w'.ownsRow base e size v n xs := by
  refine ⟨h.1, ?_⟩
  rcases h.2 with h2 | ⟨g, cap, cur, hv, hg, hh, r⟩
  · exact Or.inl h2
  · exact Or.inr ⟨g, cap, cur, hv, hg, by rw [hb.block g (Array.getElem?_eq_some_iff.1 hh).1]; exact hh, r⟩
theorem oneC (cs : List C) : ∀ u ∈ flatC cs, u.oneCell' = true := by
  intro u hu
  obtain ⟨c, _, h⟩ := List.mem_flatMap.1 hu
  simp [C.flat] at h
  rcases h with rfl | rfl | rfl <;> rfl
theorem oneI (k : IntKind) (ns : List Int) : ∀ u ∈ ns.map (Value.int k), u.oneCell' = true := by
  intro u hu
  obtain ⟨c, _, rfl⟩ := List.mem_map.1 hu
  rfl
end Go.Proofs.Ytlndjooddkjnoaa

/- What the functions of layer 1 compute, in plain words over lists of cells. No program in sight. -/
namespace Go.Proofs.Ytlndjooddkjnoaa
open Go.RowKit

theorem beq_iff (a b : C) : a.beq b = true ↔ a = b := by
  obtain ⟨k, s, n⟩ := a
  obtain ⟨k', s', n'⟩ := b
  simp only [C.beq, Bool.and_eq_true, beq_iff_eq, C.mk.injEq]
  constructor
  · rintro ⟨h1, h2, h3⟩
    refine ⟨h1, ?_, h3⟩
    have := beq_toListBytes s s'
    rw [ByteArray.toList_eq, ByteArray.toList_eq] at h2
    obtain ⟨⟨x⟩⟩ := s
    obtain ⟨⟨y⟩⟩ := s'
    simp at h2
    rw [h2]
  · rintro ⟨rfl, rfl, rfl⟩
    exact ⟨rfl, rfl, rfl⟩
theorem beq_no (a b : C) : a.beq b = false ↔ a ≠ b := by
  rw [← Bool.not_eq_true, beq_iff]

def sameC : List C → List C → Bool
  | [], [] => true
  | a :: asx, b :: bs => a.beq b && sameC asx bs
  | _, _ => false
theorem sameC_iff : ∀ a b : List C, sameC a b = true ↔ a = b
  | [], [] => by simp [sameC]
  | [], b :: bs => by simp [sameC]
  | a :: asx, [] => by simp [sameC]
  | a :: asx, b :: bs => by simp [sameC, beq_iff, sameC_iff asx bs]
theorem sameC_len {a b : List C} (h : a.length ≠ b.length) : sameC a b = false := by
  rw [← Bool.not_eq_true, sameC_iff]
  rintro rfl
  exact h rfl
def sameI : List Int → List Int → Bool
  | [], [] => true
  | a :: asx, b :: bs => a == b && sameI asx bs
  | _, _ => false
theorem sameI_iff : ∀ a b : List Int, sameI a b = true ↔ a = b
  | [], [] => by simp [sameI]
  | [], b :: bs => by simp [sameI]
  | a :: asx, [] => by simp [sameI]
  | a :: asx, b :: bs => by simp [sameI, sameI_iff asx bs]
theorem sameI_len {a b : List Int} (h : a.length ≠ b.length) : sameI a b = false := by
  rw [← Bool.not_eq_true, sameI_iff]
  rintro rfl
  exact h rfl
def sameCC : List (List C) → List (List C) → Bool
  | [], [] => true
  | a :: asx, b :: bs => sameC a b && sameCC asx bs
  | _, _ => false
theorem sameCC_iff : ∀ a b : List (List C), sameCC a b = true ↔ a = b
  | [], [] => by simp [sameCC]
  | [], b :: bs => by simp [sameCC]
  | a :: asx, [] => by simp [sameCC]
  | a :: asx, b :: bs => by simp [sameCC, sameC_iff, sameCC_iff asx bs]
theorem sameCC_len {a b : List (List C)} (h : a.length ≠ b.length) : sameCC a b = false := by
  rw [← Bool.not_eq_true, sameCC_iff]
  rintro rfl
  exact h rfl

theorem drop_get {α : Type} {l : List α} {k : Nat} {x : α} (h : l[k]? = some x) : l.drop k = x :: l.drop (k + 1) := by
  obtain ⟨hl, he⟩ := List.getElem?_eq_some_iff.1 h
  rw [List.drop_eq_getElem_cons hl, he]
theorem drop_end {α : Type} {l : List α} {k n : Nat} (h : l.length = n) (hk : ¬ k < n) : l.drop k = [] := List.drop_of_length_le (by omega)

def inI (ns : List Int) (x : Int) : Bool := ns.any fun y => y == x
theorem inI_iff (ns : List Int) (x : Int) : inI ns x = true ↔ x ∈ ns := by simp [inI]
def placeI (ns : List Int) (x : Int) : Int := idxF (fun y => y == x) 0 ns

/-- passing over terms: 'skip cs k': what stands behind the first k terms, if they are there -/
def C.ar (c : C) : Nat := if c.kind = 3 then c.n.toNat else 0
def skip : List C → Nat → Option (List C)
  | cs, 0 => some cs
  | [], _ + 1 => none
  | c :: cs, k + 1 => if c.ok then skip cs (k + c.ar) else none
def endN (t : List C) (at_ : Nat) : Option Nat := (skip (t.drop at_) 1).map fun r => t.length - r.length
def endR (t : List C) (at_ : Nat) : Int := match endN t at_ with | some e => e | none => -1
def endT (t : List C) (at_ : Nat) : Int := match endN t at_ with | some e => e | none => 0
def rightB (t : List C) : Bool := (decide (1 ≤ t.length) && decide (t.length ≤ 200)) && (endN t 0 == some t.length)

def varsA : List Int → List C → List Int
  | acc, [] => acc
  | acc, c :: cs => if c.kind = 1 ∧ inI acc c.n = false then varsA (acc ++ [c.n]) cs else varsA acc cs
def varsF (t : List C) : List Int := varsA [] t
def groundF (t : List C) : Bool := !(t.any fun c => c.kind == 1)

def partsA (t : List C) : Nat → Nat → List (List C)   -- how many are left, where
  | 0, _ => []
  | k + 1, at_ => match endN t at_ with
    | some e => (t.drop at_).take (e - at_) :: partsA t k e
    | none => []
def partsF (t : List C) : List (List C) := match t with
  | [] => []
  | c :: _ => if c.kind = 3 then partsA t c.n.toNat 1 else []
def turnF (f : Int → Int) (t : List C) : List C := t.map fun c => if c.kind = 1 then { c with n := f c.n } else c
def shiftF (t : List C) (by_ : Int) : List C := if rightB (turnF (fun n => wrap64 (n + by_)) t) then turnF (fun n => wrap64 (n + by_)) t else []
def numberF (t : List C) : List C := turnF (placeI (varsF t)) t

def cmpI (a b : Int) : Int := if a < b then -1 else if b < a then 1 else 0
def cmpS (a b : ByteArray) : Int := if Op.bytesLess a.toList b.toList then -1 else if a.toList == b.toList then 0 else 1
def cmpC (a b : C) : Int := if cmpI a.kind b.kind ≠ 0 then cmpI a.kind b.kind else if cmpI a.n b.n ≠ 0 then cmpI a.n b.n else cmpS a.name b.name
def compareT : List C → List C → Int
  | [], [] => 0
  | [], _ :: _ => -1
  | _ :: _, [] => 1
  | a :: asx, b :: bs => if cmpC a b ≠ 0 then cmpC a b else compareT asx bs
def compareR : List C → List C → Int
  | a :: asx, b :: bs => if a.beq b then compareR asx bs else if a.kind < b.kind ∨ a.kind = b.kind ∧ (a.n < b.n ∨ a.n = b.n ∧ Op.bytesLess a.name.toList b.name.toList = true) then -1 else 1
  | _, _ => 0
def makeF (name : ByteArray) (l : List (List C)) : List C :=
  if l.all rightB && rightB (⟨3, name, l.length⟩ :: l.flatten) then ⟨3, name, l.length⟩ :: l.flatten else []
end Go.Proofs.Ytlndjooddkjnoaa

/- Plain laws on passing over terms. No program in sight. -/
namespace Go.Proofs.Ytlndjooddkjnoaa
open Go.RowKit

theorem skip_zero (cs : List C) : skip cs 0 = some cs := by cases cs <;> rfl
theorem skip_cons (c : C) (cs : List C) (k : Nat) : skip (c :: cs) (k + 1) = if c.ok then skip cs (k + c.ar) else none := rfl
theorem skip_nil (k : Nat) (h : 0 < k) : skip [] k = none := by cases k <;> first | rfl | omega
theorem skip_add (cs : List C) : ∀ a b : Nat, skip cs (a + b) = (skip cs a).bind fun r => skip r b := by
  induction cs with
  | nil =>
    intro a b
    cases a with
    | zero => simp [skip_zero]
    | succ a => rw [skip_nil _ (by omega), skip_nil (a + 1) (by omega)]; rfl
  | cons c cs ih =>
    intro a b
    cases a with
    | zero => simp [skip_zero]
    | succ a =>
      rw [show a + 1 + b = (a + b) + 1 by omega, skip_cons, skip_cons]
      split
      · rw [show a + b + c.ar = (a + c.ar) + b by omega, ih]
      · rfl
theorem skip_suffix (cs : List C) : ∀ (k : Nat) (r : List C), skip cs k = some r → ∃ d, r = cs.drop d ∧ k ≤ d ∧ d ≤ cs.length := by
  induction cs with
  | nil =>
    intro k r h
    cases k with
    | zero => simp [skip_zero] at h; exact ⟨0, by simp [h], by omega, by simp⟩
    | succ k => rw [skip_nil _ (by omega)] at h; cases h
  | cons c cs ih =>
    intro k r h
    cases k with
    | zero => rw [skip_zero] at h; injection h with h; exact ⟨0, by simp [h], by omega, by simp⟩
    | succ k =>
      rw [skip_cons] at h
      split at h
      · obtain ⟨d, h1, h2, h3⟩ := ih _ _ h
        exact ⟨d + 1, by simpa using h1, by omega, by simpa using h3⟩
      · cases h

theorem endN_some {t : List C} {at_ e : Nat} : endN t at_ = some e ↔ skip (t.drop at_) 1 = some (t.drop e) ∧ at_ < e ∧ e ≤ t.length := by
  unfold endN
  constructor
  · intro h
    cases hs : skip (t.drop at_) 1 with
    | none => rw [hs] at h; cases h
    | some r =>
      rw [hs] at h
      obtain ⟨d, rfl, h1, h2⟩ := skip_suffix _ _ _ hs
      simp at h h2
      rw [List.drop_drop]
      refine ⟨by congr 2; omega, by omega, by omega⟩
  · rintro ⟨h, h1, h2⟩
    rw [h]
    simp; omega
theorem endN_none {t : List C} {at_ : Nat} : endN t at_ = none ↔ skip (t.drop at_) 1 = none := by
  unfold endN
  cases skip (t.drop at_) 1 <;> simp
theorem skip_drop_inj {t : List C} {a b : Nat} (ha : a ≤ t.length) (hb : b ≤ t.length) (h : t.drop a = t.drop b) : a = b := by
  have := congrArg List.length h
  simp at this
  omega
theorem endN_out {t : List C} {at_ : Nat} (h : t.length ≤ at_) : endN t at_ = none := by
  rw [endN_none, List.drop_of_length_le h]
  exact skip_nil 1 (by omega)
theorem endN_bad {t : List C} {at_ : Nat} {c : C} (hc : t[at_]? = some c) (h : c.ok = false) : endN t at_ = none := by
  rw [endN_none, drop_get hc, skip_cons, h]; rfl
/-- at a good cell: the arguments are passed over -/
theorem endN_good {t : List C} {at_ e : Nat} {c : C} (hc : t[at_]? = some c) (h : c.ok = true) (he : at_ < e) (hl : e ≤ t.length) (hs : skip (t.drop (at_ + 1)) c.ar = some (t.drop e)) : endN t at_ = some e := by
  rw [endN_some, drop_get hc, skip_cons, if_pos h, Nat.zero_add]
  exact ⟨hs, he, hl⟩
theorem endN_args {t : List C} {at_ : Nat} {c : C} (hc : t[at_]? = some c) (h : c.ok = true) (hs : skip (t.drop (at_ + 1)) c.ar = none) : endN t at_ = none := by
  rw [endN_none, drop_get hc, skip_cons, if_pos h, Nat.zero_add]
  exact hs
theorem ok_fun {c : C} (h : c.ok = true) (hk : c.kind = 3) : 0 ≤ c.n ∧ c.n ≤ 6 := by
  unfold C.ok at h
  simp [hk] at h
  omega
theorem ar_fun {c : C} (h : c.ok = true) (hk : c.kind = 3) : (c.ar : Int) = c.n := by
  have := ok_fun h hk
  simp [C.ar, hk]; omega
theorem ar_other {c : C} (hk : c.kind ≠ 3) : c.ar = 0 := by simp [C.ar, hk]
theorem endT_some {t : List C} {at_ e : Nat} (h : endN t at_ = some e) : endT t at_ = e := by simp [endT, h]
theorem endT_none {t : List C} {at_ : Nat} (h : endN t at_ = none) : endT t at_ = 0 := by simp [endT, h]
theorem endR_some {t : List C} {at_ e : Nat} (h : endN t at_ = some e) : endR t at_ = e := by simp [endR, h]
theorem endR_none {t : List C} {at_ : Nat} (h : endN t at_ = none) : endR t at_ = -1 := by simp [endR, h]
theorem right_R (t : List C) (n : Nat) (hl : t.length = n) (h1 : 1 ≤ n) (h2 : n ≤ 200) : (endR t 0 == (n : Int)) = rightB t := by
  subst hl
  unfold rightB endR
  cases h : endN t 0 with
  | none => simp [h1, h2] <;> omega
  | some e => rw [Bool.eq_iff_iff]; simp [h1, h2]; omega
theorem right_T (t : List C) (n : Nat) (hl : t.length = n) (h1 : 1 ≤ n) (h2 : n ≤ 200) : (endT t 0 == (n : Int)) = rightB t := by
  subst hl
  unfold rightB endT
  cases h : endN t 0 with
  | none => simp [h1, h2] <;> omega
  | some e => rw [Bool.eq_iff_iff]; simp [h1, h2]; omega
theorem right_no (t : List C) (n : Nat) (hl : t.length = n) (h : n < 1 ∨ 200 < n) : rightB t = false := by
  subst hl
  unfold rightB
  rcases h with h | h
  · simp; omega
  · simp; omega
end Go.Proofs.Ytlndjooddkjnoaa

/- Plain laws on a term and its parts. No program in sight. -/
namespace Go.Proofs.Ytlndjooddkjnoaa
open Go.RowKit

theorem skip_prefix (cs : List C) : ∀ (k : Nat) (r : List C), skip cs k = some r → ∃ p, cs = p ++ r ∧ skip p k = some [] := by
  induction cs with
  | nil =>
    intro k r h
    cases k with
    | zero => simp [skip_zero] at h; exact ⟨[], by simp [h], rfl⟩
    | succ k => rw [skip_nil _ (by omega)] at h; cases h
  | cons c cs ih =>
    intro k r h
    cases k with
    | zero => rw [skip_zero] at h; injection h with h; exact ⟨[], by simp [h], rfl⟩
    | succ k =>
      rw [skip_cons] at h
      split at h
      · rename_i ho
        obtain ⟨p, h1, h2⟩ := ih _ _ h
        exact ⟨c :: p, by simp [h1], by rw [skip_cons, if_pos ho]; exact h2⟩
      · cases h
theorem skip_append (p r : List C) : ∀ k : Nat, skip p k = some [] → skip (p ++ r) k = some r := by
  induction p with
  | nil =>
    intro k h
    cases k with
    | zero => exact skip_zero r
    | succ k => rw [skip_nil _ (by omega)] at h; cases h
  | cons c p ih =>
    intro k h
    cases k with
    | zero => rw [skip_zero] at h; cases h
    | succ k =>
      rw [skip_cons] at h
      split at h
      · rename_i ho
        rw [List.cons_append, skip_cons, if_pos ho]
        exact ih _ h
      · cases h
theorem skip_pos {t : List C} (h : skip t 1 = some []) : 1 ≤ t.length := by
  cases t with
  | nil => rw [skip_nil _ (by omega)] at h; cases h
  | cons c t => simp
theorem endN_zero {t : List C} : endN t 0 = some t.length ↔ skip t 1 = some [] := by
  rw [endN_some]
  simp
  intro h
  have := skip_pos h
  omega
theorem right_iff (t : List C) : rightB t = true ↔ skip t 1 = some [] ∧ t.length ≤ 200 := by
  simp only [rightB, Bool.and_eq_true, decide_eq_true_eq, beq_iff_eq, endN_zero]
  constructor
  · rintro ⟨⟨_, h⟩, h'⟩; exact ⟨h', h⟩
  · rintro ⟨h', h⟩; exact ⟨⟨skip_pos h', h⟩, h'⟩

/-- 'l' are the parts, one behind the other, of what 'k' terms take up -/
inductive Splits : List C → Nat → List (List C) → Prop
  | nil : Splits [] 0 []
  | cons {p r : List C} {k : Nat} {l : List (List C)} : skip p 1 = some [] → Splits r k l → Splits (p ++ r) (k + 1) (p :: l)
theorem Splits.flat {cs : List C} {k : Nat} {l : List (List C)} (h : Splits cs k l) : l.flatten = cs ∧ l.length = k ∧ (∀ p ∈ l, skip p 1 = some []) ∧ skip cs k = some [] := by
  induction h with
  | nil => exact ⟨rfl, rfl, by simp, rfl⟩
  | cons hp _ ih =>
    obtain ⟨h1, h2, h3, h4⟩ := ih
    refine ⟨by simp [h1], by simp [h2], ?_, ?_⟩
    · intro q hq
      rcases List.mem_cons.1 hq with rfl | hq
      · exact hp
      · exact h3 q hq
    · rw [Nat.add_comm, skip_add, skip_append _ _ _ hp]
      exact h4
theorem splits_of {l : List (List C)} (h : ∀ p ∈ l, skip p 1 = some []) : Splits l.flatten l.length l := by
  induction l with
  | nil => exact .nil
  | cons p l ih => exact .cons (h p (by simp)) (ih fun q hq => h q (by simp [hq]))
theorem partsA_splits (t : List C) : ∀ (k at_ : Nat), at_ ≤ t.length → skip (t.drop at_) k = some [] → Splits (t.drop at_) k (partsA t k at_) := by
  intro k
  induction k with
  | zero =>
    intro at_ hl h
    rw [skip_zero] at h
    injection h with h
    rw [h]
    exact .nil
  | succ k ih =>
    intro at_ hl h
    rw [show k + 1 = 1 + k by omega, skip_add] at h
    cases hs : skip (t.drop at_) 1 with
    | none => rw [hs] at h; cases h
    | some r =>
      rw [hs] at h
      obtain ⟨d, rfl, hd1, hd2⟩ := skip_suffix _ _ _ hs
      rw [List.drop_drop] at hs h
      have hd3 : at_ + d ≤ t.length := by simp at hd2; omega
      have he : endN t at_ = some (at_ + d) := endN_some.2 ⟨hs, by omega, hd3⟩
      obtain ⟨p, hp1, hp2⟩ := skip_prefix _ _ _ hs
      have hpl : p.length = d := by
        have := congrArg List.length hp1
        simp at this
        omega
      have htake : (t.drop at_).take (at_ + d - at_) = p := by
        rw [hp1, show at_ + d - at_ = p.length by omega]
        exact List.take_left
      have hpa : partsA t (k + 1) at_ = p :: partsA t k (at_ + d) := by simp only [partsA, he, htake]
      rw [hpa, hp1]
      exact .cons hp2 (ih (at_ + d) hd3 h)

theorem right_head {c : C} {cs : List C} (h : rightB (c :: cs) = true) : c.ok = true ∧ skip cs c.ar = some [] := by
  obtain ⟨h, _⟩ := (right_iff _).1 h
  rw [skip_cons] at h
  split at h
  · rename_i ho
    exact ⟨ho, by simpa using h⟩
  · cases h
theorem parts_splits {c : C} {cs : List C} (h : rightB (c :: cs) = true) (hk : c.kind = 3) : Splits cs c.ar (partsF (c :: cs)) := by
  obtain ⟨_, hs⟩ := right_head h
  have := partsA_splits (c :: cs) c.ar 1 (by simp) (by simpa using hs)
  simpa [partsF, hk, C.ar] using this
theorem parts_other {c : C} {cs : List C} (hk : c.kind ≠ 3) : partsF (c :: cs) = [] := by simp [partsF, hk]
theorem alone {c : C} {cs : List C} (h : rightB (c :: cs) = true) (hk : c.kind ≠ 3) : cs = [] := by
  obtain ⟨_, hs⟩ := right_head h
  rw [ar_other hk, skip_zero] at hs
  injection hs
theorem mem_length {l : List (List C)} {p : List C} (h : p ∈ l) : p.length ≤ l.flatten.length := by
  induction l with
  | nil => cases h
  | cons q l ih =>
    simp only [List.flatten_cons, List.length_append]
    rcases List.mem_cons.1 h with rfl | h
    · omega
    · have := ih h; omega
theorem parts_right {t p : List C} (h : rightB t = true) (hp : p ∈ partsF t) : rightB p = true ∧ p.length < t.length := by
  match t, h with
  | [], h => simp [partsF] at hp
  | c :: cs, h =>
    by_cases hk : c.kind = 3
    · have hs := parts_splits h hk
      obtain ⟨h1, h2, h3, _⟩ := hs.flat
      have hl := mem_length hp
      rw [h1] at hl
      have := ((right_iff _).1 h).2
      simp only [List.length_cons] at *
      exact ⟨(right_iff _).2 ⟨h3 p hp, by omega⟩, by omega⟩
    · rw [parts_other hk] at hp
      cases hp

theorem parts_len {t : List C} (h : rightB t = true) : (partsF t).length ≤ 6 := by
  match t, h with
  | [], h => simp [partsF]
  | c :: cs, h =>
    by_cases hk : c.kind = 3
    · have := (parts_splits h hk).flat.2.1
      have h6 := ok_fun (right_head h).1 hk
      have := ar_fun (right_head h).1 hk
      omega
    · rw [parts_other hk]; simp
def maxA (d : List C → Nat) : Nat → List (List C) → Nat
  | m, [] => m
  | m, p :: l => maxA d (max m (d p)) l
def depthN : Nat → List C → Nat
  | 0, _ => 0
  | f + 1, t => maxA (depthN f) 0 (partsF t) + 1
def depthF (t : List C) : Nat := depthN t.length t
theorem maxA_congr {d d' : List C → Nat} : ∀ (l : List (List C)) (m : Nat), (∀ p ∈ l, d p = d' p) → maxA d m l = maxA d' m l
  | [], _, _ => rfl
  | p :: l, m, h => by
    simp only [maxA]
    rw [h p (by simp)]
    exact maxA_congr l _ fun q hq => h q (by simp [hq])
theorem maxA_le {d : List C → Nat} {b : Nat} : ∀ (l : List (List C)) (m : Nat), m ≤ b → (∀ p ∈ l, d p ≤ b) → maxA d m l ≤ b
  | [], _, h, _ => h
  | p :: l, m, h, hl => maxA_le l _ (by have := hl p (by simp); omega) fun q hq => hl q (by simp [hq])
theorem depthN_fuel : ∀ (f f' : Nat) (t : List C), rightB t = true → t.length ≤ f → t.length ≤ f' → depthN f t = depthN f' t := by
  intro f
  induction f with
  | zero => intro f' t h h1 _; have := skip_pos ((right_iff _).1 h).1; omega
  | succ f ih =>
    intro f' t h h1 h2
    cases f' with
    | zero => have := skip_pos ((right_iff _).1 h).1; omega
    | succ f' =>
      simp only [depthN]
      rw [maxA_congr (d' := depthN f')]
      intro p hp
      obtain ⟨hr, hl⟩ := parts_right h hp
      exact ih f' p hr (by omega) (by omega)
theorem depthN_le : ∀ (f : Nat) (t : List C), depthN f t ≤ f := by
  intro f
  induction f with
  | zero => intro t; exact Nat.le_refl _
  | succ f ih =>
    intro t
    simp only [depthN]
    have := maxA_le (d := depthN f) (b := f) (partsF t) 0 (Nat.zero_le _) fun p _ => ih p
    omega
theorem depthF_eq {t : List C} (h : rightB t = true) : depthF t = maxA depthF 0 (partsF t) + 1 := by
  have h1 := skip_pos ((right_iff _).1 h).1
  obtain ⟨f, hf⟩ : ∃ f, t.length = f + 1 := ⟨t.length - 1, by omega⟩
  unfold depthF
  rw [hf]
  simp only [depthN]
  rw [maxA_congr (d' := fun p => depthN p.length p)]
  intro p hp
  obtain ⟨hr, hl⟩ := parts_right h hp
  exact depthN_fuel _ _ _ hr (by omega) (Nat.le_refl _)
end Go.Proofs.Ytlndjooddkjnoaa

/- Terms as trees, and their rows of cells. No program in sight. -/
namespace Go.Proofs.Ytlndjooddkjnoaa
open Go.RowKit

inductive Tm where
  | v (n : Int)
  | i (n : Int)
  | f (s : ByteArray) (asx : List Tm)
mutual
def Tm.flat : Tm → List C
  | .v n => [⟨1, ⟨#[]⟩, n⟩]
  | .i n => [⟨2, ⟨#[]⟩, n⟩]
  | .f s asx => ⟨3, s, asx.length⟩ :: flats asx
def flats : List Tm → List C
  | [] => []
  | t :: ts => t.flat ++ flats ts
end
mutual
def Tm.ok : Tm → Bool
  | .v n => decide (0 ≤ n) && decide (n ≤ 999)
  | .i n => decide (-2147483647 ≤ n) && decide (n ≤ 2147483647)
  | .f s asx => okName s && (decide (asx.length ≤ 6) && oks asx)
def oks : List Tm → Bool
  | [] => true
  | t :: ts => t.ok && oks ts
end
mutual
def Tm.size : Tm → Nat
  | .v _ => 1
  | .i _ => 1
  | .f _ asx => 1 + sizes asx
def sizes : List Tm → Nat
  | [] => 0
  | t :: ts => t.size + sizes ts
end
theorem flats_nil : flats [] = [] := rfl
theorem flats_cons (t : Tm) (ts : List Tm) : flats (t :: ts) = t.flat ++ flats ts := rfl
theorem oks_cons (t : Tm) (ts : List Tm) : oks (t :: ts) = (t.ok && oks ts) := rfl
theorem sizes_cons (t : Tm) (ts : List Tm) : sizes (t :: ts) = t.size + sizes ts := rfl
theorem flats_append : ∀ a b : List Tm, flats (a ++ b) = flats a ++ flats b
  | [], b => rfl
  | t :: a, b => by rw [List.cons_append, flats_cons, flats_cons, flats_append a b, List.append_assoc]
theorem oks_append : ∀ a b : List Tm, oks (a ++ b) = (oks a && oks b)
  | [], b => by simp [oks]
  | t :: a, b => by rw [List.cons_append, oks_cons, oks_cons, oks_append a b, Bool.and_assoc]
theorem sizes_append : ∀ a b : List Tm, sizes (a ++ b) = sizes a + sizes b
  | [], b => by simp [sizes]
  | t :: a, b => by rw [List.cons_append, sizes_cons, sizes_cons, sizes_append a b, Nat.add_assoc]
theorem flats_flatten : ∀ asx : List Tm, flats asx = (asx.map Tm.flat).flatten
  | [] => rfl
  | t :: ts => by rw [flats_cons, List.map_cons, List.flatten_cons, flats_flatten ts]
theorem Tm.size_pos (t : Tm) : 1 ≤ t.size := by cases t <;> simp [Tm.size] <;> omega
mutual
theorem flat_size : ∀ t : Tm, t.flat.length = t.size
  | .v _ => rfl
  | .i _ => rfl
  | .f _ asx => by simp [Tm.flat, Tm.size, flats_size asx]; omega
theorem flats_size : ∀ ts : List Tm, (flats ts).length = sizes ts
  | [] => rfl
  | t :: ts => by rw [flats_cons, sizes_cons, List.length_append, flat_size t, flats_size ts]
end
theorem size_mem {t : Tm} : ∀ {asx : List Tm}, t ∈ asx → t.size ≤ sizes asx
  | a :: asx, h => by
    rw [sizes_cons]
    rcases List.mem_cons.1 h with rfl | h
    · omega
    · have := size_mem h; omega
theorem ok_mem {t : Tm} : ∀ {asx : List Tm}, oks asx = true → t ∈ asx → t.ok = true
  | a :: asx, h, hm => by
    rw [oks_cons, Bool.and_eq_true] at h
    rcases List.mem_cons.1 hm with rfl | hm
    · exact h.1
    · exact ok_mem h.2 hm
theorem length_sizes (asx : List Tm) : asx.length ≤ sizes asx := by
  induction asx with
  | nil => simp [sizes]
  | cons t ts ih => rw [sizes_cons, List.length_cons]; have := t.size_pos; omega

/-- the cell that a term begins with -/
def Tm.c0 : Tm → C
  | .v n => ⟨1, ⟨#[]⟩, n⟩
  | .i n => ⟨2, ⟨#[]⟩, n⟩
  | .f s asx => ⟨3, s, asx.length⟩
def Tm.args : Tm → List Tm
  | .f _ asx => asx
  | _ => []
theorem flat_cons (t : Tm) : t.flat = t.c0 :: flats t.args := by cases t <;> rfl
theorem flat_get0 (t : Tm) : t.flat[0]? = some t.c0 := by rw [flat_cons]; rfl
theorem empty_toList : (⟨#[]⟩ : ByteArray).toList = [] := by rw [ByteArray.toList_eq]
theorem c0_ok {t : Tm} (h : t.ok = true) : t.c0.ok = true := by
  cases t with
  | v n =>
    simp only [Tm.ok] at h
    simp only [Tm.c0, C.ok, if_true, empty_toList, decide_true, Bool.true_and]
    exact h
  | i n =>
    simp only [Tm.ok] at h
    have h21 : ¬ (2 : Int) = 1 := by decide
    simp only [Tm.c0, C.ok, if_neg h21, if_true, empty_toList, decide_true, Bool.true_and]
    exact h
  | f s asx =>
    simp only [Tm.ok, Bool.and_eq_true, decide_eq_true_eq] at h
    have h31 : ¬ (3 : Int) = 1 := by decide
    have h32 : ¬ (3 : Int) = 2 := by decide
    simp only [Tm.c0, C.ok, if_neg h31, if_neg h32, if_true, h.1, Bool.true_and, Bool.and_eq_true, decide_eq_true_eq]
    exact ⟨decide_eq_true (by omega), decide_eq_true (by omega)⟩
theorem c0_ar (t : Tm) : t.c0.ar = t.args.length := by cases t <;> simp [Tm.c0, C.ar, Tm.args]
theorem args_ok {t : Tm} (h : t.ok = true) : oks t.args = true := by
  cases t with
  | v n => rfl
  | i n => rfl
  | f s asx => simp [Tm.ok] at h; exact h.2.2
theorem args_len {t : Tm} (h : t.ok = true) : t.args.length ≤ 6 := by
  cases t with
  | v n => simp [Tm.args]
  | i n => simp [Tm.args]
  | f s asx => simp [Tm.ok] at h; exact h.2.1
theorem size_args (t : Tm) : t.size = 1 + sizes t.args := by cases t <;> simp [Tm.size, Tm.args, sizes]
theorem c0_name {c : C} (h : c.ok = true) (hk : c.kind ≠ 3) : c.name = ⟨#[]⟩ := by
  have hn : c.name.toList = [] := by
    unfold C.ok at h
    by_cases h1 : c.kind = 1
    · simp [h1] at h; exact h.1
    · by_cases h2 : c.kind = 2
      · simp [h2] at h; exact h.1
      · simp [h1, h2, hk] at h
  rw [ByteArray.toList_eq] at hn
  obtain ⟨k, ⟨⟨x⟩⟩, n⟩ := c
  simp at hn
  simp [hn]
theorem c0_kind {c : C} (h : c.ok = true) : c.kind = 1 ∨ c.kind = 2 ∨ c.kind = 3 := by
  unfold C.ok at h
  by_cases h1 : c.kind = 1
  · exact .inl h1
  · by_cases h2 : c.kind = 2
    · exact .inr (.inl h2)
    · by_cases h3 : c.kind = 3
      · exact .inr (.inr h3)
      · simp [h1, h2, h3] at h

/-- passing over trees -/
theorem skip_flats : ∀ (N : Nat) (ts : List Tm), sizes ts ≤ N → oks ts = true → ∀ (r : List C) (k : Nat), skip (flats ts ++ r) (ts.length + k) = skip r k := by
  intro N
  induction N with
  | zero =>
    intro ts hs _ r k
    cases ts with
    | nil => simp [flats]
    | cons t ts => rw [sizes_cons] at hs; have := t.size_pos; omega
  | succ N ih =>
    intro ts hs ho r k
    cases ts with
    | nil => simp [flats]
    | cons t ts =>
      rw [sizes_cons, size_args] at hs
      rw [oks_cons, Bool.and_eq_true] at ho
      rw [flats_cons, flat_cons, List.cons_append, List.cons_append, show (t :: ts).length + k = (ts.length + k) + 1 by simp; omega, skip_cons, if_pos (c0_ok ho.1), c0_ar]
      rw [show ts.length + k + t.args.length = (t.args ++ ts).length + k by simp; omega, List.append_assoc, ← List.append_assoc, ← flats_append]
      exact ih (t.args ++ ts) (by rw [sizes_append]; omega) (by rw [oks_append, args_ok ho.1, ho.2]; rfl) r k
theorem tree_of : ∀ (N : Nat) (t : List C), t.length ≤ N → ∀ k, skip t k = some [] → ∃ Ts : List Tm, Ts.length = k ∧ oks Ts = true ∧ flats Ts = t := by
  intro N
  induction N with
  | zero =>
    intro t ht k h
    have : t = [] := List.eq_nil_of_length_eq_zero (by omega)
    subst this
    cases k with
    | zero => exact ⟨[], rfl, rfl, rfl⟩
    | succ k => rw [skip_nil _ (by omega)] at h; cases h
  | succ N ih =>
    intro t ht k h
    cases t with
    | nil =>
      cases k with
      | zero => exact ⟨[], rfl, rfl, rfl⟩
      | succ k => rw [skip_nil _ (by omega)] at h; cases h
    | cons c cs =>
      cases k with
      | zero => rw [skip_zero] at h; cases h
      | succ k =>
        rw [skip_cons] at h
        split at h
        · rename_i hc
          obtain ⟨Us, h1, h2, h3⟩ := ih cs (by simp at ht; omega) _ h
          rw [← List.take_append_drop c.ar Us, oks_append, Bool.and_eq_true] at h2
          have hf : flats (Us.take c.ar) ++ flats (Us.drop c.ar) = cs := by rw [← flats_append, List.take_append_drop]; exact h3
          have hl : (Us.take c.ar).length = c.ar := by rw [List.length_take]; omega
          have hl' : (Us.drop c.ar).length = k := by rw [List.length_drop]; omega
          have key : ∃ T : Tm, T.ok = true ∧ T.flat = c :: flats (Us.take c.ar) := by
            by_cases hk : c.kind = 3
            · refine ⟨.f c.name (Us.take c.ar), ?_, ?_⟩
              · have h6 := ok_fun hc hk
                have har := ar_fun hc hk
                have hn : okName c.name = true := by
                  unfold C.ok at hc
                  simp [hk] at hc
                  exact hc.1
                simp only [Tm.ok, hn, h2.1, Bool.and_true, Bool.true_and, decide_eq_true_eq]
                omega
              · have har := ar_fun hc hk
                simp only [Tm.flat, hl, har]
                congr 1
                obtain ⟨q, s, n⟩ := c
                simp at hk ⊢
                exact hk.symm
            · have ha := ar_other hk
              rw [ha] at *
              have hn := c0_name hc hk
              rw [List.take_zero]
              rcases c0_kind hc with h1 | h1 | h1
              · refine ⟨.v c.n, ?_, ?_⟩
                · unfold C.ok at hc; simp [h1] at hc; simp [Tm.ok, hc.2]
                · obtain ⟨q, s, n⟩ := c
                  simp at h1 hn
                  subst h1 hn
                  rfl
              · refine ⟨.i c.n, ?_, ?_⟩
                · unfold C.ok at hc; simp [h1] at hc; simp [Tm.ok, hc.2]
                · obtain ⟨q, s, n⟩ := c
                  simp at h1 hn
                  subst h1 hn
                  rfl
              · exact absurd h1 hk
          obtain ⟨T, ht1, ht2⟩ := key
          exact ⟨T :: Us.drop c.ar, by simp [hl'], by rw [oks_cons, ht1, h2.2]; rfl, by rw [flats_cons, ht2, List.cons_append, hf]⟩
        · cases h
theorem right_flat {T : Tm} (h : T.ok = true) (hs : T.size ≤ 200) : rightB T.flat = true := by
  rw [right_iff, flat_size]
  refine ⟨?_, hs⟩
  have := skip_flats (sizes [T]) [T] (Nat.le_refl _) (by simp [oks, h]) [] 0
  simpa [flats, skip_zero] using this
theorem right_tree {t : List C} (h : rightB t = true) : ∃ T : Tm, T.ok = true ∧ T.flat = t ∧ T.size ≤ 200 := by
  obtain ⟨h1, h2⟩ := (right_iff t).1 h
  obtain ⟨Ts, a1, a2, a3⟩ := tree_of t.length t (Nat.le_refl _) 1 h1
  match Ts, a1 with
  | [T], _ =>
    have a3' : T.flat = t := by simpa [flats] using a3
    exact ⟨T, by simpa [oks] using a2, a3', by rw [← flat_size, a3']; exact h2⟩

/-- rows of terms with the same cells, and asx many, are the same -/
theorem same_rows : ∀ (a b : List (List C)), a.length = b.length → (∀ p ∈ a, skip p 1 = some []) → (∀ p ∈ b, skip p 1 = some []) → a.flatten = b.flatten → a = b
  | [], [], _, _, _, _ => rfl
  | [], _ :: _, h, _, _, _ => by simp at h
  | _ :: _, [], h, _, _, _ => by simp at h
  | p :: a, q :: b, h, ha, hb, he => by
    rw [List.flatten_cons, List.flatten_cons] at he
    have h1 := skip_append p a.flatten 1 (ha p (by simp))
    have h2 := skip_append q b.flatten 1 (hb q (by simp))
    rw [he, h2] at h1
    injection h1 with h1
    have hpq : p = q := by
      have := congrArg List.length he
      rw [h1] at he
      exact (List.append_cancel_right he)
    rw [hpq, same_rows a b (by simpa using h) (fun x hx => ha x (by simp [hx])) (fun x hx => hb x (by simp [hx])) h1.symm]
theorem parts_flat {T : Tm} (h : T.ok = true) (hs : T.size ≤ 200) : partsF T.flat = T.args.map Tm.flat := by
  have hr := right_flat h hs
  have hfc := flat_cons T
  by_cases hk : T.c0.kind = 3
  · rw [hfc] at hr
    have hsp := parts_splits hr hk
    rw [hfc]
    refine same_rows _ _ ?_ ?_ ?_ ?_
    · rw [hsp.flat.2.1, c0_ar, List.length_map]
    · intro p hp
      exact ((right_iff p).1 (parts_right hr hp).1).1
    · intro p hp
      obtain ⟨U, hU, rfl⟩ := List.mem_map.1 hp
      have := skip_flats (sizes [U]) [U] (Nat.le_refl _) (by simp [oks, ok_mem (args_ok h) hU]) [] 0
      simpa [flats, skip_zero] using this
    · rw [← flats_flatten]; exact hsp.flat.1
  · have ha : T.args = [] := by cases T <;> first | rfl | exact absurd rfl hk
    rw [hfc, parts_other hk, ha]; rfl
end Go.Proofs.Ytlndjooddkjnoaa

/- 'append' upon an empty literal, or upon a row of the call's own. No program in sight. -/
namespace Go.Proofs.Ytlndjooddkjnoaa
open Go.RowKit

section
variable {P : Program} {ops : Array Oper} {rest : List Oper} {o : Oper} {a : Act} {w : World} {Q : Exit → Act → World → Prop}
/-- an empty slice without room, wherever it lies, or a row of the call's own -/
def Own0 (w : World) (base : Nat) (e : TypeId) (size : Nat) (v : Value) (n : Nat) (xs : List Value) : Prop :=
  (∃ A, v = .slice A 0 0 ∧ n = 0 ∧ xs = []) ∨ w.ownsRow base e size v n xs
theorem own_lower {w : World} {base base' : Nat} {e : TypeId} {size : Nat} {v : Value} {n : Nat} {xs : List Value} (h : w.ownsRow base e size v n xs) (hb : base' ≤ base) : w.ownsRow base' e size v n xs := by
  refine ⟨h.1, ?_⟩
  rcases h.2 with h2 | ⟨g, cap, cur, hv, hg, r⟩
  · exact Or.inl h2
  · exact Or.inr ⟨g, cap, cur, hv, by omega, r⟩
theorem Own0.below {w w' : World} {base : Nat} {e : TypeId} {size : Nat} {v : Value} {n : Nat} {xs : List Value} (h : Own0 w base e size v n xs) (hb : Below w.heap.size w w') : Own0 w' base e size v n xs := by
  rcases h with h | h
  · exact .inl h
  · exact .inr (own_below h hb)
theorem Own0.sl {w : World} {base size n cap : Nat} {e : TypeId} {A : Option Addr} {xs : List Value} (h : Own0 w base e size (.slice A n cap) n xs) (hs : 0 < size) : Sl w size A n cap xs := by
  rcases h with ⟨A', he, rfl, rfl⟩ | h
  · injection he with _ _ h3
    subst h3
    exact ⟨by simp, Nat.le_refl _, by simp [maxLen], fun h => absurd h (by omega)⟩
  · exact Sl.own h hs
theorem wpList_append_own0 (hw : Region.wanted o (yielded ops a.tmps) = true) (s x : Operand) (t : TypeId) (ho : o.op = .call { callee := .builtin .append, args := #[s, x], argTypes := #[t, t] })
    (base : Nat) (e : TypeId) {z : Value} {size bytes : Nat} (ht : P.underlying t = some (.slice e)) (hinfo : (P.info? e).map (fun i => (i.zero, i.size, i.bytes)) = some (some z, size, bytes))
    (hzs : z.cells.size = size) (hsz : 0 < size) {v : Value} {n : Nat} {xs : List Value} (hs : a.eval s = v) (hown : Own0 w base e size v n xs)
    {A : Option Addr} {m c : Nat} {news : List Value} (hx : a.eval x = .slice A m c) (hr : Sl w size A m c news) (h1 : ∀ u ∈ news, u.oneCell' = true) (hm : 0 < m)
    (h63 : n + m ≤ 1000000000000) (hbyt : bytes ≤ 64) (hbase : base ≤ w.heap.size)
    (k : ∀ A' cap' w', w'.ownsRow base e size (.slice A' (n + m) cap') (n + m) (xs ++ news) → Below base w w' → wpList P ops Q rest (a.put o.dst (.slice A' (n + m) cap')) w') :
    wpList P ops Q (o :: rest) a w := by
  rcases hown with ⟨As, rfl, rfl, rfl⟩ | hown
  · cases As with
    | none => exact wpList_append_sl hw s x t ho base e ht hinfo hzs hsz hs (World.ownsRow_nil w base e size) hx hr h1 h63 hbyt hbase fun A' cap' w' h2 h3 _ _ => k A' cap' w' h2 h3
    | some b =>
      obtain ⟨i, hi, hz, hsize, hby⟩ := info_parts hinfo
      obtain ⟨b', off, rfl, hlt, hc⟩ := hr.cells hm
      obtain ⟨v', w', hrun, h2, h3⟩ := run_append_arg_grows (P := P) w t o.type e i z size bytes ht hi hz hsize hby hzs hsz b 0 0 [] (by simp) (by simp) ⟨b', off, none⟩ m c news hr.len
        (fun j u hu => by rw [Addr.add_lit]; exact hc j u hu) (by omega) (by simp only [maxLen]; omega) (by have : (0 + m) * bytes ≤ 1000000000000 * 64 := Nat.mul_le_mul h63 hbyt; omega)
      refine wpList_run (Φ := fun v' w' => w'.ownsRow w.heap.size e size v' (0 + m) ([] ++ news) ∧ w.grownBy w' none) hw ⟨v', w', ?_, h2, h3⟩ ?_
      · simp only [execOp, ho, resolve, invoke, builtin, Sem.run_bind, Sem.run_pure, Result.andThen_ok, List.map_toArray, List.map_cons, List.map_nil, hs, hx, hrun]
      · rintro v2 w2 ⟨g1, g2⟩
        obtain ⟨A', cap', rfl, _⟩ := Sl.of_own g1 hsz
        exact k A' cap' w2 (own_lower g1 hbase) ((Below.refl base w).grown g2 hbase (fun q hq => by cases hq))
  · exact wpList_append_sl hw s x t ho base e ht hinfo hzs hsz hs hown hx hr h1 h63 hbyt hbase fun A' cap' w' h2 h3 _ _ => k A' cap' w' h2 h3
end
end Go.Proofs.Ytlndjooddkjnoaa

/- A row that another one is no part of, kept over an append. No program in sight. -/
namespace Go.Proofs.Ytlndjooddkjnoaa
open Go.RowKit

/-- what an append to a row of the call's own leaves as it was -/
structure Apart (w w' : World) (As A' : Option Addr) : Prop where
  size : w.heap.size ≤ w'.heap.size
  old : ∀ g, g < w.heap.size → (∀ a, As = some a → a.block ≠ g) → w'.heap[g]? = w.heap[g]?
  blk : ∀ a', A' = some a' → a'.block < w'.heap.size ∧ ((∃ a, As = some a ∧ a'.block = a.block) ∨ w.heap.size ≤ a'.block)
theorem Sl.apart {w w' : World} {As A' A : Option Addr} {size n c : Nat} {xs : List Value} (h : Sl w size A n c xs) (hp : Apart w w' As A') (hs : ∀ a a', As = some a → A = some a' → a.block ≠ a'.block) : Sl w' size A n c xs := by
  refine ⟨h.len, h.hcap, h.hmax, fun hn => ?_⟩
  obtain ⟨b, off, rfl, hb, hc⟩ := h.cells hn
  refine ⟨b, off, rfl, Nat.lt_of_lt_of_le hb hp.size, fun j u hu => ?_⟩
  rw [← hc j u hu]
  exact World.cell?_of_block (hp.old b hb fun a ha => hs a _ ha rfl)
theorem IsI.apart {w w' : World} {As A' A : Option Addr} {n c : Nat} {xs : List Int} (h : IsI w A n c xs) (hp : Apart w w' As A') (hs : ∀ a a', As = some a → A = some a' → a.block ≠ a'.block) : IsI w' A n c xs := ⟨h.sl.apart hp hs, h.wf⟩
theorem IsC.apart {w w' : World} {As A' A : Option Addr} {n c : Nat} {xs : List C} (h : IsC w A n c xs) (hp : Apart w w' As A') (hs : ∀ a a', As = some a → A = some a' → a.block ≠ a'.block) : IsC w' A n c xs := ⟨h.sl.apart hp hs, h.wf⟩
theorem Own0.lt {w : World} {base size n m cap : Nat} {e : TypeId} {A : Option Addr} {xs : List Value} (h : w.ownsRow base e size (.slice A m cap) n xs) : ∀ a, A = some a → base ≤ a.block ∧ a.block < w.heap.size := fun a ha => by
  subst ha
  exact h.lt _ rfl

section
variable {P : Program} {ops : Array Oper} {rest : List Oper} {o : Oper} {a : Act} {w : World} {Q : Exit → Act → World → Prop}
theorem wpList_append_own1 (hw : Region.wanted o (yielded ops a.tmps) = true) (s x : Operand) (t : TypeId) (ho : o.op = .call { callee := .builtin .append, args := #[s, x], argTypes := #[t, t] })
    (base : Nat) (e : TypeId) {z : Value} {size bytes : Nat} (ht : P.underlying t = some (.slice e)) (hinfo : (P.info? e).map (fun i => (i.zero, i.size, i.bytes)) = some (some z, size, bytes))
    (hzs : z.cells.size = size) (hsz : 0 < size) {As : Option Addr} {n cs : Nat} {xs : List Value} (hs : a.eval s = .slice As n cs) (hown : Own0 w base e size (.slice As n cs) n xs)
    {A : Option Addr} {m c : Nat} {news : List Value} (hx : a.eval x = .slice A m c) (hr : Sl w size A m c news) (h1 : ∀ u ∈ news, u.oneCell' = true) (hm : 0 < m)
    (h63 : n + m ≤ 1000000000000) (hbyt : bytes ≤ 64) (hbase : base ≤ w.heap.size)
    (k : ∀ A' cap' w', w'.ownsRow base e size (.slice A' (n + m) cap') (n + m) (xs ++ news) → Below base w w' → Apart w w' As A' → wpList P ops Q rest (a.put o.dst (.slice A' (n + m) cap')) w') :
    wpList P ops Q (o :: rest) a w := by
  have sl : ∀ {As : Option Addr} {n cs : Nat} {xs : List Value}, a.eval s = .slice As n cs → w.ownsRow base e size (.slice As n cs) n xs → n + m ≤ 1000000000000 → (∀ A' cap' w', w'.ownsRow base e size (.slice A' (n + m) cap') (n + m) (xs ++ news) → Below base w w' → Apart w w' As A' → wpList P ops Q rest (a.put o.dst (.slice A' (n + m) cap')) w') → wpList P ops Q (o :: rest) a w := by
    intro As n cs xs hs hown h63 k
    refine wpList_append_sl hw s x t ho base e ht hinfo hzs hsz hs hown hx hr h1 h63 hbyt hbase fun A' cap' w' h2 h3 h4 h5 => k A' cap' w' h2 h3 ⟨h4.size, fun g hg hne => h4.block g hg ?_, fun a' ha' => ⟨(Own0.lt h2 a' ha').2, ?_⟩⟩
    · cases As with
      | none => simp [Value.ownBlock]
      | some b => have := hne b rfl; simp [Value.ownBlock]; omega
    · subst ha'
      cases As with
      | none =>
        rcases h5 with h5 | h5
        · simp [Value.ownBlock] at h5
        · right; simp [Value.ownBlock] at h5; omega
      | some b =>
        rcases h5 with h5 | h5
        · left; simp [Value.ownBlock] at h5; exact ⟨b, rfl, h5⟩
        · right; simp [Value.ownBlock] at h5; omega
  rcases hown with ⟨As', he, rfl, rfl⟩ | hown
  · injection he with he1 he2 he3
    subst he1; subst he3
    cases As with
    | none => exact sl hs (World.ownsRow_nil w base e size) h63 k
    | some b =>
      obtain ⟨i, hi, hz, hsize, hby⟩ := info_parts hinfo
      obtain ⟨b', off, rfl, hlt, hc⟩ := hr.cells hm
      obtain ⟨v', w', hrun, h2, h3⟩ := run_append_arg_grows (P := P) w t o.type e i z size bytes ht hi hz hsize hby hzs hsz b 0 0 [] (by simp) (by simp) ⟨b', off, none⟩ m c news hr.len
        (fun j u hu => by rw [Addr.add_lit]; exact hc j u hu) (by omega) (by simp only [maxLen]; omega) (by have : (0 + m) * bytes ≤ 1000000000000 * 64 := Nat.mul_le_mul h63 hbyt; omega)
      refine wpList_run (Φ := fun v' w' => w'.ownsRow w.heap.size e size v' (0 + m) ([] ++ news) ∧ w.grownBy w' none) hw ⟨v', w', ?_, h2, h3⟩ ?_
      · simp only [execOp, ho, resolve, invoke, builtin, Sem.run_bind, Sem.run_pure, Result.andThen_ok, List.map_toArray, List.map_cons, List.map_nil, hs, hx, hrun]
      · rintro v2 w2 ⟨g1, g2⟩
        obtain ⟨A', cap', rfl, _⟩ := Sl.of_own g1 hsz
        exact k A' cap' w2 (own_lower g1 hbase) ((Below.refl base w).grown g2 hbase (fun q hq => by cases hq)) ⟨g2.size, fun g hg _ => g2.block g hg (by simp), fun a' ha' => ⟨(Own0.lt g1 a' ha').2, .inr (Own0.lt g1 a' ha').1⟩⟩
  · exact sl hs hown h63 k
end
end Go.Proofs.Ytlndjooddkjnoaa

/- 'append' at a step of a region that draws its order: upon an empty literal, or upon a row of the call's own; and what it leaves as it was. No program in sight. -/
namespace Go.Proofs.Ytlndjooddkjnoaa
open Go.RowKit

section
variable {P : Program} {ops : Array Oper} {o : Oper} {a : Act} {w : World} {K : Act → World → Prop} {Q : Exit → Act → World → Prop} {E : Prop}
/-- what an append hands back -/
def AppendedA (w : World) (base : Nat) (e : TypeId) (size n : Nat) (xs : List Value) (As : Option Addr) (v : Value) (w' : World) : Prop :=
  ∃ A' cap', v = .slice A' n cap' ∧ w'.ownsRow base e size (.slice A' n cap') n xs ∧ Below base w w' ∧ Apart w w' As A'
theorem run_append_ap (s x : Operand) (t : TypeId) (ho : o.op = .call { callee := .builtin .append, args := #[s, x], argTypes := #[t, t] })
    (base : Nat) (e : TypeId) {z : Value} {size bytes : Nat} (ht : P.underlying t = some (.slice e)) (hinfo : (P.info? e).map (fun i => (i.zero, i.size, i.bytes)) = some (some z, size, bytes))
    (hzs : z.cells.size = size) (hsz : 0 < size) {As : Option Addr} {n cs : Nat} {xs : List Value} (hs : a.eval s = .slice As n cs) (hown : Own0 w base e size (.slice As n cs) n xs)
    {A : Option Addr} {m c : Nat} {news : List Value} (hx : a.eval x = .slice A m c) (hr : Sl w size A m c news) (h1 : ∀ u ∈ news, u.oneCell' = true) (hm : 0 < m)
    (h63 : n + m ≤ 1000000000000) (hbyt : bytes ≤ 64) (hbase : base ≤ w.heap.size) :
    ∃ v w', (execOp a.eval o).run P w = .ok (.value v) w' ∧ AppendedA w base e size (n + m) (xs ++ news) As v w' := by
  obtain ⟨i, hi, hz, hsize, hby⟩ := info_parts hinfo
  have sl : ∀ {As : Option Addr} {n cs : Nat} {xs : List Value}, a.eval s = .slice As n cs → w.ownsRow base e size (.slice As n cs) n xs → n + m ≤ 1000000000000 → ∃ v w', (execOp a.eval o).run P w = .ok (.value v) w' ∧ AppendedA w base e size (n + m) (xs ++ news) As v w' := by
    intro As n cs xs hs hown h63
    obtain ⟨v', w', hrun, h2, h3, h4⟩ := run_append_sl (P := P) base t o.type e i z size bytes ht hi hz hsize hby hzs hsz _ n xs hown A m c news hr h1 (by simp only [maxLen]; omega)
      (by have : (n + m) * bytes ≤ 1000000000000 * 64 := Nat.mul_le_mul h63 hbyt; omega) hbase
    have hlt := hown.lt
    refine ⟨v', w', by simp only [execOp, ho, resolve, invoke, builtin, Sem.run_bind, Sem.run_pure, Result.andThen_ok, List.map_toArray, List.map_cons, List.map_nil, hs, hx, hrun], ?_⟩
    obtain ⟨A', cap', rfl, _⟩ := Sl.of_own h2 hsz
    refine ⟨A', cap', rfl, h2, (Below.refl base w).grown h3 hbase (fun q hq => (hlt q hq).1), ⟨h3.size, fun g hg hne => h3.block g hg ?_, fun a' ha' => ⟨(Own0.lt h2 a' ha').2, ?_⟩⟩⟩
    · cases As with
      | none => simp [Value.ownBlock]
      | some b => have := hne b rfl; simp [Value.ownBlock]; omega
    · subst ha'
      cases As with
      | none =>
        rcases h4 with h4 | h4
        · simp [Value.ownBlock] at h4
        · right; simp [Value.ownBlock] at h4; omega
      | some b =>
        rcases h4 with h4 | h4
        · left; simp [Value.ownBlock] at h4; exact ⟨b, rfl, h4⟩
        · right; simp [Value.ownBlock] at h4; omega
  rcases hown with ⟨As', he, rfl, rfl⟩ | hown
  · injection he with he1 he2 he3
    subst he1; subst he3
    cases As with
    | none => exact sl hs (World.ownsRow_nil w base e size) h63
    | some b =>
      obtain ⟨b', off, rfl, hlt, hc⟩ := hr.cells hm
      obtain ⟨v', w', hrun, h2, h3⟩ := run_append_arg_grows (P := P) w t o.type e i z size bytes ht hi hz hsize hby hzs hsz b 0 0 [] (by simp) (by simp) ⟨b', off, none⟩ m c news hr.len
        (fun j u hu => by rw [Addr.add_lit]; exact hc j u hu) (by omega) (by simp only [maxLen]; omega) (by have : (0 + m) * bytes ≤ 1000000000000 * 64 := Nat.mul_le_mul h63 hbyt; omega)
      refine ⟨v', w', by simp only [execOp, ho, resolve, invoke, builtin, Sem.run_bind, Sem.run_pure, Result.andThen_ok, List.map_toArray, List.map_cons, List.map_nil, hs, hx, hrun], ?_⟩
      obtain ⟨A', cap', rfl, _⟩ := Sl.of_own h2 hsz
      exact ⟨A', cap', rfl, own_lower h2 hbase, (Below.refl base w).grown h3 hbase (fun q hq => by cases hq), ⟨h3.size, fun g hg _ => h3.block g hg (by simp), fun a' ha' => ⟨(Own0.lt h2 a' ha').2, .inr (Own0.lt h2 a' ha').1⟩⟩⟩
  · exact sl hs hown h63
theorem step_of_runA (hw : Region.wanted o (yielded ops a.tmps) = true) {Φ : Value → World → Prop} (hr : ∃ v w', (execOp a.eval o).run P w = .ok (.value v) w' ∧ Φ v w')
    (k : ∀ v w', Φ v w' → K (a.put o.dst v) w') : if Region.wanted o (yielded ops a.tmps) = true then o.wp P a w K Q else E := by
  obtain ⟨v, w', hr, hp⟩ := hr
  rw [if_pos hw]
  unfold Oper.wp
  rw [hr]
  exact k v w' hp
theorem step_append_ap (hw : Region.wanted o (yielded ops a.tmps) = true) (s x : Operand) (t : TypeId) (ho : o.op = .call { callee := .builtin .append, args := #[s, x], argTypes := #[t, t] })
    (base : Nat) (e : TypeId) {z : Value} {size bytes : Nat} (ht : P.underlying t = some (.slice e)) (hinfo : (P.info? e).map (fun i => (i.zero, i.size, i.bytes)) = some (some z, size, bytes))
    (hzs : z.cells.size = size) (hsz : 0 < size) {As : Option Addr} {n cs : Nat} {xs : List Value} (hs : a.eval s = .slice As n cs) (hown : Own0 w base e size (.slice As n cs) n xs)
    {A : Option Addr} {m c : Nat} {news : List Value} (hx : a.eval x = .slice A m c) (hr : Sl w size A m c news) (h1 : ∀ u ∈ news, u.oneCell' = true) (hm : 0 < m)
    (h63 : n + m ≤ 1000000000000) (hbyt : bytes ≤ 64) (hbase : base ≤ w.heap.size)
    (k : ∀ A' cap' w', w'.ownsRow base e size (.slice A' (n + m) cap') (n + m) (xs ++ news) → Below base w w' → Apart w w' As A' → K (a.put o.dst (.slice A' (n + m) cap')) w') :
    if Region.wanted o (yielded ops a.tmps) = true then o.wp P a w K Q else E :=
  step_of_runA hw (run_append_ap s x t ho base e ht hinfo hzs hsz hs hown hx hr h1 hm h63 hbyt hbase) fun v w' ⟨A', cap', hv, h2, h3, h4⟩ => by
    subst hv
    exact k A' cap' w' h2 h3 h4
end
end Go.Proofs.Ytlndjooddkjnoaa

/- A slice whose elements are read by a relation: rows of structs, rows of rows. No program in sight. -/
namespace Go.Proofs.Ytlndjooddkjnoaa
open Go.RowKit

/-- elements of k places each; R w x v: in w the places v are the element x -/
structure IsG {α : Type} (R : World → α → List Value → Prop) (k : Nat) (w : World) (A : Option Addr) (n cap : Nat) (xs : List α) : Prop where
  len : xs.length = n
  rows : ∃ vs : List (List Value), vs.length = xs.length ∧ (∀ v ∈ vs, v.length = k) ∧ Sl w k A n cap vs.flatten ∧ ∀ (i : Nat) (x : α) (v : List Value), xs[i]? = some x → vs[i]? = some v → R w x v
/-- a relation that later worlds keep -/
def Keeps {α : Type} (R : World → α → List Value → Prop) : Prop := ∀ w w' x v, R w x v → Below w.heap.size w w' → R w' x v

theorem flatten_len {k : Nat} : ∀ {vs : List (List Value)}, (∀ v ∈ vs, v.length = k) → vs.flatten.length = vs.length * k
  | [], _ => by simp
  | v :: vs, h => by
    rw [List.flatten_cons, List.length_append, h v (by simp), flatten_len (fun u hu => h u (by simp [hu])), List.length_cons, Nat.succ_mul]; omega
theorem flatten_get {k : Nat} : ∀ {vs : List (List Value)} {i j : Nat} {v : List Value} {u : Value}, (∀ v ∈ vs, v.length = k) → vs[i]? = some v → v[j]? = some u → vs.flatten[i * k + j]? = some u
  | [], i, j, v, u, _, hi, _ => by simp at hi
  | v0 :: vs, i, j, v, u, h, hi, hj => by
    have h0 := h v0 (by simp)
    rw [List.flatten_cons]
    cases i with
    | zero =>
      simp at hi
      subst hi
      have := (List.getElem?_eq_some_iff.1 hj).1
      rw [Nat.zero_mul, Nat.zero_add, List.getElem?_append_left this, hj]
    | succ i =>
      have hi' : vs[i]? = some v := by simpa using hi
      have hj' := (List.getElem?_eq_some_iff.1 hj).1
      rw [List.getElem?_append_right (by rw [Nat.succ_mul]; omega), show (i + 1) * k + j - v0.length = i * k + j by rw [Nat.succ_mul]; omega]
      exact flatten_get (fun u hu => h u (by simp [hu])) hi' hj

section
variable {α : Type} {R : World → α → List Value → Prop} {k : Nat} {w w' : World} {A : Option Addr} {n cap : Nat} {xs : List α}
theorem IsG.below (hR : Keeps R) (h : IsG R k w A n cap xs) (hb : Below w.heap.size w w') : IsG R k w' A n cap xs := by
  obtain ⟨vs, h1, h2, h3, h4⟩ := h.rows
  exact ⟨h.len, vs, h1, h2, h3.below hb, fun i x v hx hv => hR _ _ _ _ (h4 i x v hx hv) hb⟩
theorem IsG.cap_le (h : IsG R k w A n cap xs) : n ≤ cap ∧ cap ≤ maxLen := by
  obtain ⟨vs, h1, h2, h3, h4⟩ := h.rows
  exact ⟨h3.hcap, h3.hmax⟩
theorem IsG.get (h : IsG R k w A n cap xs) {i : Nat} (hi : i < n) : ∃ x, xs[i]? = some x := ⟨_, List.getElem?_eq_getElem (by have := h.len; omega)⟩
theorem IsG.at_ (h : IsG R k w A n cap xs) {i : Nat} {x : α} (hx : xs[i]? = some x) :
    ∃ b off v, A = some ⟨b, off, none⟩ ∧ b < w.heap.size ∧ v.length = k ∧ R w x v ∧ ∀ j u, v[j]? = some u → w.cell? ⟨b, off + i * k + j, none⟩ = some u := by
  have hlt : i < xs.length := (List.getElem?_eq_some_iff.1 hx).1
  obtain ⟨vs, h1, h2, h3, h4⟩ := h.rows
  obtain ⟨v, hv⟩ : ∃ v, vs[i]? = some v := ⟨_, List.getElem?_eq_getElem (by omega)⟩
  obtain ⟨b, off, rfl, hb, hc⟩ := h3.cells (by have := h.len; omega)
  exact ⟨b, off, v, rfl, hb, h2 v (List.mem_of_getElem? hv), h4 i x v hx hv, fun j u hu => by rw [Nat.add_assoc]; exact hc _ _ (flatten_get h2 hv hu)⟩
theorem IsG.nil (hc : cap ≤ maxLen) : IsG R k w A 0 cap [] := ⟨rfl, [], rfl, by simp, ⟨by simp, Nat.zero_le _, hc, fun h => absurd h (by omega)⟩, by simp⟩
theorem IsG.take (h : IsG R k w A n cap xs) {m : Nat} (hm : m ≤ n) : IsG R k w A m cap (xs.take m) := by
  obtain ⟨vs, h1, h2, h3, h4⟩ := h.rows
  have hl := h.len
  refine ⟨by rw [List.length_take]; omega, vs.take m, by rw [List.length_take, List.length_take, h1], fun v hv => h2 v (List.mem_of_mem_take hv), ⟨?_, Nat.le_trans hm h3.hcap, h3.hmax, fun hm0 => ?_⟩, fun i x v hx hv => ?_⟩
  · rw [flatten_len (fun v hv => h2 v (List.mem_of_mem_take hv)), List.length_take]; congr 1; omega
  · obtain ⟨b, off, rfl, hb, hc⟩ := h3.cells (by omega)
    refine ⟨b, off, rfl, hb, fun j u hu => hc j u ?_⟩
    have hs : vs.flatten = (vs.take m).flatten ++ (vs.drop m).flatten := by rw [← List.flatten_append, List.take_append_drop]
    rw [hs, List.getElem?_append_left (List.getElem?_eq_some_iff.1 hu).1]
    exact hu
  · rw [List.getElem?_take] at hx hv
    split at hx
    · rename_i hi; rw [if_pos hi] at hv; exact h4 i x v hx hv
    · cases hx
theorem flatten_drop {k : Nat} : ∀ {vs : List (List Value)} (m : Nat), (∀ v ∈ vs, v.length = k) → vs.flatten.drop (m * k) = (vs.drop m).flatten
  | [], m, _ => by simp
  | v :: vs, 0, _ => by simp
  | v :: vs, m + 1, h => by
    have h0 := h v (by simp)
    rw [List.flatten_cons, Nat.succ_mul, List.drop_append, h0, List.drop_of_length_le (by omega), List.nil_append, show m * k + k - k = m * k by omega, List.drop_succ_cons]
    exact flatten_drop m (fun u hu => h u (by simp [hu]))
theorem IsG.drop (h : IsG R k w A n cap xs) {m : Nat} (hm : m ≤ n) : IsG R k w (if cap = m then A else A.map (·.add (m * k))) (n - m) (cap - m) (xs.drop m) := by
  obtain ⟨vs, h1, h2, h3, h4⟩ := h.rows
  have hl := h.len
  refine ⟨by rw [List.length_drop]; omega, vs.drop m, by rw [List.length_drop, List.length_drop, h1], fun v hv => h2 v (List.mem_of_mem_drop hv), ?_, fun i x v hx hv => ?_⟩
  · rw [← flatten_drop m h2]
    have hlen := h3.len
    have hmul : (n - m) * k = n * k - m * k := Nat.sub_mul n m k
    refine ⟨by rw [List.length_drop, hlen, hmul], by have := h3.hcap; omega, by have := h3.hmax; omega, fun hn => ?_⟩
    obtain ⟨b, off, rfl, hb, hc⟩ := h3.cells (by omega)
    rw [if_neg (by have := h3.hcap; omega)]
    refine ⟨b, off + m * k, by simp [Addr.add], hb, fun j u hu => ?_⟩
    rw [List.getElem?_drop] at hu
    have := hc _ u hu
    rwa [← Nat.add_assoc] at this
  · rw [List.getElem?_drop] at hx hv
    exact h4 _ x v hx hv
/-- out of a row of the call's own -/
theorem IsG.own {base : Nat} {e : TypeId} {vs : List (List Value)} (h : w.ownsRow base e k (.slice A n cap) n vs.flatten) (hk : 0 < k) (hl : xs.length = n) (h1 : vs.length = xs.length) (h2 : ∀ v ∈ vs, v.length = k)
    (h4 : ∀ (i : Nat) (x : α) (v : List Value), xs[i]? = some x → vs[i]? = some v → R w x v) : IsG R k w A n cap xs := ⟨hl, vs, h1, h2, Sl.own h hk, h4⟩

/-- a row of the call's own, of such elements -/
structure OwnG (R : World → α → List Value → Prop) (k : Nat) (w : World) (base : Nat) (e : TypeId) (v : Value) (n : Nat) (xs : List α) : Prop where
  len : xs.length = n
  rows : ∃ vs : List (List Value), vs.length = xs.length ∧ (∀ v ∈ vs, v.length = k) ∧ w.ownsRow base e k v n vs.flatten ∧ ∀ (i : Nat) (x : α) (v : List Value), xs[i]? = some x → vs[i]? = some v → R w x v
theorem OwnG.is {base : Nat} {e : TypeId} (h : OwnG R k w base e (.slice A n cap) n xs) (hk : 0 < k) : IsG R k w A n cap xs := by
  obtain ⟨vs, h1, h2, h3, h4⟩ := h.rows
  exact ⟨h.len, vs, h1, h2, Sl.own h3 hk, h4⟩
theorem OwnG.below {base : Nat} {e : TypeId} {v : Value} (hR : Keeps R) (h : OwnG R k w base e v n xs) (hb : Below w.heap.size w w') : OwnG R k w' base e v n xs := by
  obtain ⟨vs, h1, h2, h3, h4⟩ := h.rows
  exact ⟨h.len, vs, h1, h2, own_below h3 hb, fun i x v hx hv => hR _ _ _ _ (h4 i x v hx hv) hb⟩
theorem OwnG.nil (w : World) (base : Nat) (e : TypeId) : OwnG R k w base e (.slice none 0 0) 0 [] := ⟨rfl, [], rfl, by simp, World.ownsRow_nil w base e k, by simp⟩
/-- one more: what 'append' leaves -/
theorem OwnG.snoc {w2 : World} {base : Nat} {e : TypeId} {v' : Value} {x : α} {u : List Value} {vs : List (List Value)}
    (hown : w2.ownsRow base e k v' (n + 1) (vs.flatten ++ u)) (hl : xs.length = n) (h1 : vs.length = xs.length) (h2 : ∀ v ∈ vs, v.length = k) (hu : u.length = k)
    (h4 : ∀ (i : Nat) (x : α) (v : List Value), xs[i]? = some x → vs[i]? = some v → R w2 x v) (hx : R w2 x u) : OwnG R k w2 base e v' (n + 1) (xs ++ [x]) := by
  refine ⟨by simp [hl], vs ++ [u], by simp [h1], ?_, by simpa using hown, ?_⟩
  · intro v hv
    rcases List.mem_append.1 hv with hv | hv
    · exact h2 v hv
    · simp at hv; subst hv; exact hu
  · intro i y v hy hv
    rw [List.getElem?_append] at hy hv
    split at hy
    · rename_i hi
      rw [if_pos (by omega)] at hv
      exact h4 i y v hy hv
    · rename_i hi
      rw [if_neg (by omega)] at hv
      have e : i - xs.length = 0 := by
        have := (List.getElem?_eq_some_iff.1 hy).1
        simp at this
        omega
      have e' : i - vs.length = 0 := by omega
      rw [e] at hy
      rw [e'] at hv
      simp at hy hv
      subst hy hv
      exact hx
end
end Go.Proofs.Ytlndjooddkjnoaa

/- Small numbers. No program in sight. -/
namespace Go.Proofs.Ytlndjooddkjnoaa
theorem i64_0' : i64 0 := ⟨by decide, by decide⟩
end Go.Proofs.Ytlndjooddkjnoaa

/- A region that draws its order, gone through in one order: the one operation that may come up. -/
namespace Go.Proofs.Ytlndjooddkjnoaa

section
variable {P : Program} {ops : Array Oper} {Q : Exit → Act → World → Prop} {md : Region.Mode} {S : World → Prop}
/-- one operation alone may come up -/
theorem held_one {i : Nat} {o : Oper} {n : Nat} {ls : Array Bool} {a : Act} {w : World} (hr : Region.ready md ops ls = [i]) (ho : ops[i]? = some o)
    (h : ∀ K : Act → World → Prop, Shut (∀ b v, S v → wpAnyH P md ops Q S n (ls.setIfInBounds i true) b v → K b v) → if Region.wanted o (yielded ops a.tmps) = true then Oper.wp P o a w K Q else K (a.put o.dst undef) w) :
    wpAnyH P md ops Q S (n + 1) ls a w := by
  refine wpAnyH_all hr (by simp) fun j hj => ?_
  rw [List.mem_singleton] at hj
  subst hj
  exact wpOp_step ho (fun K hK => h K (fun b v hS hW => hK b v ⟨hS, hW⟩))
/-- one that only yields is taken first; what is decided is asked by itself -/
theorem takeH (i : Nat) {oi : Oper} {v : Value} {n : Nat} {ls : Array Bool} {a : Act} {w : World} (hS : S w) (h : wpAnyH P md ops Q S n (ls.setIfInBounds i true) (a.put oi.dst v) w)
    (hi : ops[i]? = some oi := by (simp only [List.getElem?_toArray, List.getElem?_cons_succ, List.getElem?_cons_zero]; exact rfl))
    (hs : Region.noSelect ops = true := by kernel_rfl) (hf : Region.free md ops ls i = true := by kernel_rfl) (hr : (Region.ready md ops ls).contains i = true := by kernel_rfl)
    (hQ : ∀ c a' w', Q (.panic c) (a'.put oi.dst v) w' → Q (.panic c) a' w' := by exact fun _ _ _ h => h) (hw : Region.wanted oi (yielded ops a.tmps) = true := by rfl)
    (hy : ∀ w', S w' → (execOp a.eval oi).run P w' = .ok (.value v) w' := by (intro w hSw; (try dsimp only at hSw); go_simp <;> with_reducible rfl)) : wpAnyH P md ops Q S (n + 1) ls a w :=
  wpAnyH_take hi hs hf hr hQ (.inl ⟨hw, hy⟩) hS h
/-- one that is not wanted -/
theorem skipH (i : Nat) {oi : Oper} {n : Nat} {ls : Array Bool} {a : Act} {w : World} (hS : S w) (h : wpAnyH P md ops Q S n (ls.setIfInBounds i true) (a.put oi.dst undef) w)
    (hi : ops[i]? = some oi := by (simp only [List.getElem?_toArray, List.getElem?_cons_succ, List.getElem?_cons_zero]; exact rfl))
    (hs : Region.noSelect ops = true := by kernel_rfl) (hf : Region.free md ops ls i = true := by kernel_rfl) (hr : (Region.ready md ops ls).contains i = true := by kernel_rfl)
    (hQ : ∀ c a' w', Q (.panic c) (a'.put oi.dst undef) w' → Q (.panic c) a' w' := by exact fun _ _ _ h => h) (hw : Region.wanted oi (yielded ops a.tmps) = false := by rfl) : wpAnyH P md ops Q S (n + 1) ls a w :=
  wpAnyH_take hi hs hf hr hQ (.inr ⟨hw, rfl⟩) hS h
end
end Go.Proofs.Ytlndjooddkjnoaa

/- A load may be taken first where the one operation of the region that writes its cell waits for it. -/
namespace Go.Proofs.Ytlndjooddkjnoaa

section
variable {P : Program} {ops : Array Oper} {Q : Exit → Act → World → Prop} {md : Region.Mode} {S : World → Prop} {L : Nat}

/-- in whatever order: and behind each operation but number L the world meets S -/
def anyBut (P : Program) (md : Region.Mode) (ops : Array Oper) (Q : Exit → Act → World → Prop) (S : World → Prop) (L : Nat) : Nat → Array Bool → Act → World → Prop
  | 0, ls, a, w => Region.ready md ops ls = [] ∧ Q .normal a w
  | n + 1, ls, a, w => (Region.ready md ops ls = [] → Q .normal a w) ∧
      ∀ j ∈ Region.ready md ops ls, wpOp P ops Q j (fun b v => (j = L ∨ S v) ∧ anyBut P md ops Q S L n (ls.setIfInBounds j true) b v) a w

theorem any_of_but : ∀ (n : Nat) (ls : Array Bool) (a : Act) (w : World), anyBut P md ops Q S L n ls a w → wpAny P md ops Q n ls a w
  | 0, _, _, _, h => h
  | n + 1, _, _, _, h => ⟨h.1, fun j hj => wpOp_mono (fun b v hb => any_of_but n _ b v hb.2) (h.2 j hj)⟩

/-- operation L waits for operation i -/
def waits (md : Region.Mode) (ops : Array Oper) (L i : Nat) : Bool :=
  match ops[L]? with
  | none => false
  | some o => o.after.any fun e => Region.binds md e && e.on == i

theorem not_last {i j : Nat} {ls : Array Bool} (hw : waits md ops L i = true) (hi : i ∈ Region.ready md ops ls) (hj : j ∈ Region.ready md ops ls) : j ≠ L := by
  rintro rfl
  obtain ⟨_, o, ho, hall⟩ := mem_ready.1 hj
  obtain ⟨h0, o2, ho2, _⟩ := mem_ready.1 hi
  unfold waits at hw
  rw [ho] at hw
  obtain ⟨k, hk, hb2⟩ := Array.any_eq_true.1 hw
  have he : o.after[k] ∈ o.after := Array.getElem_mem hk
  generalize o.after[k] = e at he hb2
  simp only [Bool.and_eq_true, beq_iff_eq] at hb2
  obtain ⟨hb, rfl⟩ := hb2
  have h1 := hall e he hb
  rcases Nat.lt_or_ge e.on ls.size with h2 | h2
  · simp [h2] at h0 h1
    rw [h0] at h1
    cases h1
  · simp [Array.getElem?_eq_none h2] at h1

theorem but_first {i : Nat} {oi : Oper} {v : Value} (hi : ops[i]? = some oi) (hsel : ∀ (j : Nat) (o : Oper) cs b, ops[j]? = some o → o.op ≠ .select cs b)
    (hQ : ∀ c a w, Q (.panic c) (a.put oi.dst v) w → Q (.panic c) a w) (hw : waits md ops L i = true) :
    ∀ (n : Nat) (ls : Array Bool) (a : Act) (w : World),
      (∀ j oj, ops[j]? = some oj → j ≠ i → ls.getD j true = false → (∀ e ∈ oj.after, Region.binds md e = true → e.on ≠ i) → oi.apart ops oj = true) →
      i ∈ Region.ready md ops ls → YieldsIf P ops S oi v a → S w →
      anyBut P md ops Q S L n (ls.setIfInBounds i true) (a.put oi.dst v) w → anyBut P md ops Q S L (n + 1) ls a w := by
  intro n
  induction n with
  | zero =>
    intro ls a w _ hr hy hS H
    refine ⟨fun h => (by rw [h] at hr; cases hr), fun j hj => ?_⟩
    by_cases hji : j = i
    · subst hji; exact hy.wpOp hi hS ⟨.inr hS, H⟩
    · have hm := ready_mono hj hji
      rw [H.1] at hm
      cases hm
  | succ n ih =>
    intro ls a w hfree hr hy hS H
    refine ⟨fun h => (by rw [h] at hr; cases hr), fun j hj => ?_⟩
    by_cases hji : j = i
    · subst hji; exact hy.wpOp hi hS ⟨.inr hS, H⟩
    have hjL := not_last hw hr hj
    obtain ⟨hun, oj, hoj, hall⟩ := mem_ready.1 hj
    have hno : ∀ e ∈ oj.after, Region.binds md e = true → e.on ≠ i := fun e he hb heq => by
      have h1 := hall e he hb
      have h0 := (mem_ready.1 hr).1
      rw [heq] at h1
      rcases Nat.lt_or_ge i ls.size with h2 | h2
      · simp [h2] at h0 h1; rw [h0] at h1; cases h1
      · simp [Array.getElem?_eq_none h2] at h1
    have h2 := wpOp_putIf hoj (hfree j oj hoj hji hun hno) (fun cs b => hsel i oi cs b hi) (fun cs b => hsel j oj cs b hoj) hQ hy (H.2 j (ready_mono hj hji))
    refine wpOp_mono (fun b v h3 => ?_) h2
    have hSv : S v := h3.2.1.resolve_left hjL
    refine ⟨.inr hSv, ih (ls.setIfInBounds j true) b v (fun k ok hk hki hunk hnok => ?_) (ready_mono hr (Ne.symm hji)) h3.1 hSv ?_⟩
    · refine hfree k ok hk hki ?_ hnok
      by_cases hjk : j = k
      · subst hjk; exact hun
      · rw [getD_set_ne true hjk] at hunk; exact hunk
    · rw [Array.setIfInBounds_comm _ _ hji]
      exact h3.2.2

theorem but_take {i : Nat} {oi : Oper} {v : Value} {n : Nat} {ls : Array Bool} {a : Act} {w : World} (hi : ops[i]? = some oi)
    (hs : Region.noSelect ops = true) (hf : Region.free md ops ls i = true) (hr : (Region.ready md ops ls).contains i = true) (hw : waits md ops L i = true)
    (hQ : ∀ c a w, Q (.panic c) (a.put oi.dst v) w → Q (.panic c) a w) (hy : YieldsIf P ops S oi v a) (hS : S w)
    (h : anyBut P md ops Q S L n (ls.setIfInBounds i true) (a.put oi.dst v) w) : anyBut P md ops Q S L (n + 1) ls a w :=
  but_first hi (Region.noSelect_spec hs) hQ hw n ls a w (Region.free_spec hi hf) (by simpa using hr) hy hS h

/-- the same; what is decided is asked by itself -/
theorem takeB (i : Nat) {oi : Oper} {v : Value} {n : Nat} {ls : Array Bool} {a : Act} {w : World} (hS : S w) (h : anyBut P md ops Q S L n (ls.setIfInBounds i true) (a.put oi.dst v) w)
    (hi : ops[i]? = some oi := by (simp only [List.getElem?_toArray, List.getElem?_cons_succ, List.getElem?_cons_zero]; exact rfl))
    (hs : Region.noSelect ops = true := by kernel_rfl) (hf : Region.free md ops ls i = true := by kernel_rfl) (hr : (Region.ready md ops ls).contains i = true := by kernel_rfl) (hl : waits md ops L i = true := by kernel_rfl)
    (hQ : ∀ c a' w', Q (.panic c) (a'.put oi.dst v) w' → Q (.panic c) a' w' := by exact fun _ _ _ h => h) (hw : Region.wanted oi (yielded ops a.tmps) = true := by rfl)
    (hy : ∀ w', S w' → (execOp a.eval oi).run P w' = .ok (.value v) w' := by (intro w hSw; (try dsimp only at hSw); go_simp <;> with_reducible rfl)) : anyBut P md ops Q S L (n + 1) ls a w :=
  but_take hi hs hf hr hl hQ (.inl ⟨hw, hy⟩) hS h

/-- one operation alone may come up -/
theorem but_one {i : Nat} {o : Oper} {n : Nat} {ls : Array Bool} {a : Act} {w : World} (hr : Region.ready md ops ls = [i]) (ho : ops[i]? = some o)
    (h : ∀ K : Act → World → Prop, Shut (∀ b v, (i = L ∨ S v) → anyBut P md ops Q S L n (ls.setIfInBounds i true) b v → K b v) → if Region.wanted o (yielded ops a.tmps) = true then Oper.wp P o a w K Q else K (a.put o.dst undef) w) :
    anyBut P md ops Q S L (n + 1) ls a w := by
  refine ⟨fun h0 => (by rw [h0] at hr; cases hr), fun j hj => ?_⟩
  rw [hr, List.mem_singleton] at hj
  subst hj
  exact wpOp_step ho (fun K hK => h K (fun b v hS hW => hK b v ⟨hS, hW⟩))

theorem but_done {ls : Array Bool} {a : Act} {w : World} (hr : Region.ready md ops ls = []) (h : Q .normal a w) : ∀ n, anyBut P md ops Q S L n ls a w
  | 0 => ⟨hr, h⟩
  | _ + 1 => ⟨fun _ => h, by rw [hr]; simp⟩

theorem region_but {id : Nat} {a : Act} {w : World} (L : Nat) (S : World → Prop) (hm : P.follows .mixedOrders = true)
    (h : anyBut P .any ops Q S L ops.size (Array.replicate ops.size false) a w.drew) : (Code.region id ops true).wp P Q a w :=
  wp_region_any hm (any_of_but _ _ _ _ h)
end
end Go.Proofs.Ytlndjooddkjnoaa

/- A region that draws its order, where two operations may come up. -/
namespace Go.Proofs.Ytlndjooddkjnoaa
section
variable {P : Program} {ops : Array Oper} {Q : Exit → Act → World → Prop} {md : Region.Mode} {S : World → Prop}
theorem held_two {i j : Nat} {oi oj : Oper} {n : Nat} {ls : Array Bool} {a : Act} {w : World} (hr : Region.ready md ops ls = [i, j]) (hoi : ops[i]? = some oi) (hoj : ops[j]? = some oj)
    (hi : ∀ K : Act → World → Prop, Shut (∀ b v, S v → wpAnyH P md ops Q S n (ls.setIfInBounds i true) b v → K b v) → if Region.wanted oi (yielded ops a.tmps) = true then Oper.wp P oi a w K Q else K (a.put oi.dst undef) w)
    (hj : ∀ K : Act → World → Prop, Shut (∀ b v, S v → wpAnyH P md ops Q S n (ls.setIfInBounds j true) b v → K b v) → if Region.wanted oj (yielded ops a.tmps) = true then Oper.wp P oj a w K Q else K (a.put oj.dst undef) w) :
    wpAnyH P md ops Q S (n + 1) ls a w := by
  refine wpAnyH_all hr (by simp) fun k hk => ?_
  rcases List.mem_cons.1 hk with rfl | hk
  · exact wpOp_step hoi (fun K hK => hi K (fun b v hS hW => hK b v ⟨hS, hW⟩))
  · rw [List.mem_singleton] at hk
    subst hk
    exact wpOp_step hoj (fun K hK => hj K (fun b v hS hW => hK b v ⟨hS, hW⟩))
end
end Go.Proofs.Ytlndjooddkjnoaa
