/- Texts of this proof that belong together: words of memory, plain laws, short walks. -/
import Derived.WalkKit
import Derived.WalkSpells
import Derived.WalkLawsBesides
import Derived.BigQuiet
import Derived.Lib.Hide
import Derived.Deep.QuietTactic
import Derived.Deep.AppendLies
import Derived.Maps.AppendAt
import Derived.Test.YtdeaeiolehglaaaRows
import Derived.ProofKit
import Derived.OpenShut
import Derived.ShutString
import Derived.ChangeOld
import Derived.Deep.Slices
import Derived.Deep.Fields
import Derived.ChangeSame
import Derived.Lib.SmallJoins
import Derived.ArgAppend
import Derived.Maps.OwnSet
import Derived.Maps.OwnOps
import Derived.Deep.RegionLaw
import Derived.Deep.RegionHeld3
import Derived.ChangeArms
set_option linter.unusedVariables false
set_option linter.unusedSimpArgs false
/- Words of memory: a slice that reads as a list of cells, of numbers, of rows of cells; what stays as it was. No program in sight. -/
namespace Go.Proofs.Ytdeaeiolehglaaa
open Go.RowKit

theorem bcell {W w1 : World} {B : Nat} (hb : Below B W w1) : (∀ b o, b < B → w1.cell? ⟨b, o, none⟩ = W.cell? ⟨b, o, none⟩) ∧ (∀ b o, b < B → w1.frozen? ⟨b, o, none⟩ = W.frozen? ⟨b, o, none⟩) :=
  ⟨fun b o h => hb.cell (p := ⟨b, o, none⟩) h, fun b o h => hb.frozen (p := ⟨b, o, none⟩) h⟩

/-- a cell of a term -/
structure C where
  kind : Int
  name : ByteArray
  n : Int

def i64 (n : Int) : Prop := -9223372036854775808 ≤ n ∧ n ≤ 9223372036854775807
structure C.wf (c : C) : Prop where
  kind : i64 c.kind
  n : i64 c.n
  name : c.name.size ≤ maxLen
def C.val (c : C) : Value := .agg #[.int .i64 c.kind, .string c.name, .int .i64 c.n]
def C.flat (c : C) : List Value := [.int .i64 c.kind, .string c.name, .int .i64 c.n]
def flatC (cs : List C) : List Value := cs.flatMap C.flat
def C.beq (a b : C) : Bool := a.kind == b.kind && (a.name.toList == b.name.toList && a.n == b.n)

/-- a slice value that reads as so many values, each of them in one place -/
structure Sl (w : World) (size : Nat) (A : Option Addr) (n cap : Nat) (xs : List Value) : Prop where
  len : xs.length = n * size
  hcap : n ≤ cap
  hmax : cap ≤ maxLen
  cells : 0 < n → ∃ b off, A = some ⟨b, off, none⟩ ∧ b < w.heap.size ∧ ∀ j u, xs[j]? = some u → w.cell? ⟨b, off + j, none⟩ = some u

theorem Sl.below {w w' : World} {size n cap : Nat} {A : Option Addr} {xs : List Value} (h : Sl w size A n cap xs) (hb : Below w.heap.size w w') : Sl w' size A n cap xs :=
  ⟨h.len, h.hcap, h.hmax, fun hn => by
    obtain ⟨b, off, hA, hlt, hc⟩ := h.cells hn
    exact ⟨b, off, hA, Nat.lt_of_lt_of_le hlt hb.size, fun j u hu => (hb.cell (p := ⟨b, off + j, none⟩) hlt).trans (hc j u hu)⟩⟩

theorem Sl.cut {w : World} {size n cap : Nat} {A : Option Addr} {xs : List Value} (h : Sl w size A n cap xs) {lo hi : Nat} (hlo : lo ≤ hi) (hhi : hi ≤ n) (_hs : 0 < size) :
    Sl w size (if cap = lo then A else A.map (·.add (lo * size))) (hi - lo) (cap - lo) ((xs.drop (lo * size)).take ((hi - lo) * size)) := by
  have h1 := h.hcap
  have h2 := h.hmax
  have h3 := h.len
  have hle : lo * size + (hi - lo) * size ≤ n * size := by rw [← Nat.add_mul]; exact Nat.mul_le_mul_right _ (by omega)
  refine ⟨by rw [List.length_take, List.length_drop, h3]; omega, by omega, by omega, fun hn => ?_⟩
  obtain ⟨b, off, rfl, hlt, hc⟩ := h.cells (by omega)
  rw [if_neg (by omega)]
  refine ⟨b, off + lo * size, by simp [Addr.add], hlt, fun j u hu => ?_⟩
  rw [List.getElem?_take] at hu
  split at hu
  · rw [List.getElem?_drop] at hu
    have := hc _ u hu
    rwa [← Nat.add_assoc] at this
  · cases hu

theorem Sl.of_own {w : World} {base size n : Nat} {e : TypeId} {v : Value} {xs : List Value} (h : w.ownsRow base e size v n xs) (_hs : 0 < size) : ∃ A cap, v = .slice A n cap ∧ Sl w size A n cap xs := by
  rcases h.2 with ⟨rfl, rfl⟩ | ⟨g, cap, cur, rfl, hb, hg, h1, h2, h3, h4⟩
  · exact ⟨none, 0, rfl, by have := h.1; simpa using this, Nat.le_refl _, by simp [maxLen], fun h => absurd h (by omega)⟩
  · refine ⟨some ⟨g, 0, none⟩, cap, rfl, h.1, h1, h2, fun _ => ⟨g, 0, rfl, (Array.getElem?_eq_some_iff.1 hg).1, fun j u hu => ?_⟩⟩
    rw [Nat.zero_add, cell_of_row w g j cur e (0, 0) hg]
    rw [← h4, List.getElem?_take] at hu
    split at hu
    · simpa using hu
    · cases hu

/-! ### cells -/
theorem flatC_len (cs : List C) : (flatC cs).length = cs.length * 3 := by
  induction cs with
  | nil => rfl
  | cons c cs ih => simp [flatC, C.flat] at ih ⊢; omega
theorem flatC_append (a b : List C) : flatC (a ++ b) = flatC a ++ flatC b := by simp [flatC]
theorem flatC_drop (cs : List C) (k : Nat) : (flatC cs).drop (k * 3) = flatC (cs.drop k) := by
  induction cs generalizing k with
  | nil => simp [flatC]
  | cons c cs ih =>
    cases k with
    | zero => simp
    | succ k =>
      have := ih k
      rw [Nat.succ_mul]
      simp [flatC, C.flat] at this ⊢
      exact this
theorem flatC_take (cs : List C) (k : Nat) : (flatC cs).take (k * 3) = flatC (cs.take k) := by
  induction cs generalizing k with
  | nil => simp [flatC]
  | cons c cs ih =>
    cases k with
    | zero => simp [flatC]
    | succ k =>
      have := ih k
      rw [Nat.succ_mul]
      simp [flatC, C.flat] at this ⊢
      exact this
theorem flatC_get (cs : List C) (k : Nat) (c : C) (h : cs[k]? = some c) :
    (flatC cs)[k * 3]? = some (.int .i64 c.kind) ∧ (flatC cs)[k * 3 + 1]? = some (.string c.name) ∧ (flatC cs)[k * 3 + 2]? = some (.int .i64 c.n) := by
  induction cs generalizing k with
  | nil => simp at h
  | cons d cs ih =>
    cases k with
    | zero => simp at h; subst h; simp [flatC, C.flat]
    | succ k =>
      have := ih k (by simpa using h)
      rw [Nat.succ_mul]
      simp [flatC, C.flat] at this ⊢
      exact this

structure IsC (w : World) (A : Option Addr) (n cap : Nat) (cs : List C) : Prop where
  sl : Sl w 3 A n cap (flatC cs)
  wf : ∀ c ∈ cs, c.wf
theorem IsC.len {w : World} {A : Option Addr} {n cap : Nat} {cs : List C} (h : IsC w A n cap cs) : cs.length = n := by
  have := h.sl.len
  rw [flatC_len] at this
  omega
theorem IsC.below {w w' : World} {A : Option Addr} {n cap : Nat} {cs : List C} (h : IsC w A n cap cs) (hb : Below w.heap.size w w') : IsC w' A n cap cs := ⟨h.sl.below hb, h.wf⟩
theorem IsC.at_ {w : World} {A : Option Addr} {n cap : Nat} {cs : List C} (h : IsC w A n cap cs) {k : Nat} {c : C} (hk : cs[k]? = some c) :
    ∃ b off, A = some ⟨b, off, none⟩ ∧ b < w.heap.size ∧ c.wf ∧ w.cell? ⟨b, off + k * 3, none⟩ = some (.int .i64 c.kind) ∧ w.cell? ⟨b, off + k * 3 + 1, none⟩ = some (.string c.name) ∧ w.cell? ⟨b, off + k * 3 + 2, none⟩ = some (.int .i64 c.n) := by
  have hlt : k < cs.length := (List.getElem?_eq_some_iff.1 hk).1
  obtain ⟨b, off, rfl, hb, hc⟩ := h.sl.cells (by have := h.len; omega)
  obtain ⟨h0, h1, h2⟩ := flatC_get cs k c hk
  exact ⟨b, off, rfl, hb, h.wf c (List.mem_of_getElem? hk), hc _ _ h0, hc _ _ h1, hc _ _ h2⟩
theorem IsC.open_ {w : World} {A : Option Addr} {n cap : Nat} {cs : List C} (h : IsC w A n cap cs) (hn : 0 < n) :
    ∃ b off, A = some ⟨b, off, none⟩ ∧ b < w.heap.size ∧ ∀ (k : Nat) (c : C), cs[k]? = some c → w.cell? ⟨b, off + k * 3, none⟩ = some (.int .i64 c.kind) ∧ w.cell? ⟨b, off + k * 3 + 1, none⟩ = some (.string c.name) ∧ w.cell? ⟨b, off + k * 3 + 2, none⟩ = some (.int .i64 c.n) := by
  obtain ⟨b, off, rfl, hb, hc⟩ := h.sl.cells hn
  refine ⟨b, off, rfl, hb, fun k c hk => ?_⟩
  obtain ⟨h0, h1, h2⟩ := flatC_get cs k c hk
  exact ⟨hc _ _ h0, hc _ _ h1, hc _ _ h2⟩
theorem IsC.get {w : World} {A : Option Addr} {n cap : Nat} {cs : List C} (h : IsC w A n cap cs) {k : Nat} (hk : k < n) : ∃ c, cs[k]? = some c :=
  ⟨_, List.getElem?_eq_getElem (by have := h.len; omega)⟩
theorem IsC.cut {w : World} {A : Option Addr} {n cap : Nat} {cs : List C} (h : IsC w A n cap cs) {lo hi : Nat} (hlo : lo ≤ hi) (hhi : hi ≤ n) :
    IsC w (if cap = lo then A else A.map (·.add (lo * 3))) (hi - lo) (cap - lo) ((cs.drop lo).take (hi - lo)) := by
  refine ⟨?_, fun c hc => h.wf c (List.mem_of_mem_drop (List.mem_of_mem_take hc))⟩
  have := h.sl.cut hlo hhi (by omega)
  rwa [flatC_drop, flatC_take] at this
theorem IsC.cut' {w : World} {b off n cap : Nat} {cs : List C} (h : IsC w (some ⟨b, off, none⟩) n cap cs) {lo hi : Nat} (hlo : lo ≤ hi) (hhi : hi ≤ n) (hc : ¬ cap = lo) :
    IsC w (some ⟨b, off + lo * 3, none⟩) (hi - lo) (cap - lo) ((cs.drop lo).take (hi - lo)) := by
  have := h.cut hlo hhi
  rw [if_neg hc] at this
  have e : (⟨b, off, none⟩ : Addr).add (lo * 3) = ⟨b, off + lo * 3, none⟩ := by unfold Addr.add; split <;> simp_all
  simpa [e] using this
theorem IsC.take {w : World} {A : Option Addr} {n cap : Nat} {cs : List C} (h : IsC w A n cap cs) {m : Nat} (hm : m ≤ n) : IsC w A m cap (cs.take m) := by
  have h1 := h.sl.hcap
  have h3 := h.len
  refine ⟨⟨by rw [flatC_len, List.length_take]; omega, by omega, h.sl.hmax, fun hn => ?_⟩, fun c hc => h.wf c (List.mem_of_mem_take hc)⟩
  obtain ⟨b, off, rfl, hb, hc⟩ := h.sl.cells (by omega)
  refine ⟨b, off, rfl, hb, fun j u hu => hc j u ?_⟩
  rw [← flatC_take, List.getElem?_take] at hu
  split at hu
  · exact hu
  · cases hu
theorem IsC.nil (w : World) (A : Option Addr) (cap : Nat) (h : cap ≤ maxLen) : IsC w A 0 cap [] := ⟨⟨rfl, Nat.zero_le _, h, fun h => absurd h (by omega)⟩, by simp⟩

/-! ### numbers -/
structure IsI (w : World) (A : Option Addr) (n cap : Nat) (ns : List Int) : Prop where
  sl : Sl w 1 A n cap (ns.map (Value.int .i64))
  wf : ∀ x ∈ ns, i64 x
theorem IsI.len {w : World} {A : Option Addr} {n cap : Nat} {ns : List Int} (h : IsI w A n cap ns) : ns.length = n := by
  have := h.sl.len
  rw [List.length_map] at this
  omega
theorem IsI.below {w w' : World} {A : Option Addr} {n cap : Nat} {ns : List Int} (h : IsI w A n cap ns) (hb : Below w.heap.size w w') : IsI w' A n cap ns := ⟨h.sl.below hb, h.wf⟩
theorem IsI.at_ {w : World} {A : Option Addr} {n cap : Nat} {ns : List Int} (h : IsI w A n cap ns) {k : Nat} {x : Int} (hk : ns[k]? = some x) :
    ∃ b off, A = some ⟨b, off, none⟩ ∧ b < w.heap.size ∧ i64 x ∧ w.cell? ⟨b, off + k, none⟩ = some (.int .i64 x) := by
  have hlt : k < ns.length := (List.getElem?_eq_some_iff.1 hk).1
  obtain ⟨b, off, rfl, hb, hc⟩ := h.sl.cells (by have := h.len; omega)
  exact ⟨b, off, rfl, hb, h.wf x (List.mem_of_getElem? hk), hc _ _ (by rw [List.getElem?_map, hk]; rfl)⟩
theorem IsI.open_ {w : World} {A : Option Addr} {n cap : Nat} {ns : List Int} (h : IsI w A n cap ns) (hn : 0 < n) :
    ∃ b off, A = some ⟨b, off, none⟩ ∧ b < w.heap.size ∧ ∀ (k : Nat) (x : Int), ns[k]? = some x → w.cell? ⟨b, off + k, none⟩ = some (.int .i64 x) := by
  obtain ⟨b, off, rfl, hb, hc⟩ := h.sl.cells hn
  exact ⟨b, off, rfl, hb, fun k x hk => hc _ _ (by rw [List.getElem?_map, hk]; rfl)⟩
theorem IsI.get {w : World} {A : Option Addr} {n cap : Nat} {ns : List Int} (h : IsI w A n cap ns) {k : Nat} (hk : k < n) : ∃ x, ns[k]? = some x :=
  ⟨_, List.getElem?_eq_getElem (by have := h.len; omega)⟩
theorem IsI.nil (w : World) (A : Option Addr) (cap : Nat) (h : cap ≤ maxLen) : IsI w A 0 cap [] := ⟨⟨rfl, Nat.zero_le _, h, fun h => absurd h (by omega)⟩, by simp⟩

/-! ### rows of cells -/
structure IsCC (w : World) (A : Option Addr) (n cap : Nat) (ts : List (List C)) : Prop where
  len : ts.length = n
  rows : ∃ vs : List Value, Sl w 1 A n cap vs ∧ ∀ (i : Nat) (t : List C), ts[i]? = some t → ∃ A' n' cap', vs[i]? = some (Value.slice A' n' cap') ∧ IsC w A' n' cap' t
theorem IsCC.below {w w' : World} {A : Option Addr} {n cap : Nat} {ts : List (List C)} (h : IsCC w A n cap ts) (hb : Below w.heap.size w w') : IsCC w' A n cap ts := by
  refine ⟨h.len, ?_⟩
  obtain ⟨vs, hs, hr⟩ := h.rows
  exact ⟨vs, hs.below hb, fun i t hi => by obtain ⟨A', n', cap', hv, hc⟩ := hr i t hi; exact ⟨A', n', cap', hv, hc.below hb⟩⟩
theorem IsCC.at_ {w : World} {A : Option Addr} {n cap : Nat} {ts : List (List C)} (h : IsCC w A n cap ts) {k : Nat} {t : List C} (hk : ts[k]? = some t) :
    ∃ b off A' n' cap', A = some ⟨b, off, none⟩ ∧ b < w.heap.size ∧ w.cell? ⟨b, off + k, none⟩ = some (.slice A' n' cap') ∧ IsC w A' n' cap' t := by
  have hlt : k < ts.length := (List.getElem?_eq_some_iff.1 hk).1
  obtain ⟨vs, hs, hr⟩ := h.rows
  obtain ⟨b, off, rfl, hb, hc⟩ := hs.cells (by have := h.len; omega)
  obtain ⟨A', n', cap', hv, hcc⟩ := hr k t hk
  exact ⟨b, off, A', n', cap', rfl, hb, hc _ _ hv, hcc⟩
theorem IsCC.get {w : World} {A : Option Addr} {n cap : Nat} {ts : List (List C)} (h : IsCC w A n cap ts) {k : Nat} (hk : k < n) : ∃ t, ts[k]? = some t :=
  ⟨_, List.getElem?_eq_getElem (by have := h.len; omega)⟩

/-! ### draws -/
theorem below_drewN {B : Nat} {a w : World} (h : Below B a w) (n : Nat) : Below B a (w.drewN n) := ⟨h.os, h.tape, h.output, h.size, h.block⟩
theorem quiet_add {P : Program} {f : FuncId} {args : Array Value} {w : World} {a n : Nat} {v : Value}
    (h : Calls P f args (w.drewN (a + n)) fun e w' => e = .returned v ∧ ∃ m, w' = (w.drewN (a + n)).drewN m) :
    Calls P f args (w.drewN (a + n)) fun e w'' => e = .returned v ∧ ∃ m, w'' = w.drewN (a + m) :=
  h.mono fun _ _ ⟨he, m, hm⟩ => ⟨he, n + m, by rw [hm, World.drewN_drewN, Nat.add_assoc]⟩
theorem quiet_add_left {P : Program} {f : FuncId} {args : Array Value} {w : World} {a n : Nat} {v : Value}
    (h : Calls P f args (w.drewN (a + n)) fun e w' => e = .returned v ∧ w.drewN (a + n) = w') :
    Calls P f args (w.drewN (a + n)) fun e w'' => e = .returned v ∧ ∃ m, w'' = w.drewN (a + m) :=
  h.mono fun _ _ ⟨he, hm⟩ => ⟨he, n, hm.symm⟩
/-! ### what a call hands back -/
def RetD (w : World) (v : Value) (e : Ending) (w' : World) : Prop := e = .returned v ∧ ∃ n, w' = w.drewN n
def RetV (w : World) (v : Value) (e : Ending) (w' : World) : Prop := e = .returned v ∧ Below w.heap.size w w'
def RetC (w : World) (cs : List C) (e : Ending) (w' : World) : Prop := ∃ A n cap, e = .returned (.slice A n cap) ∧ IsC w' A n cap cs ∧ Below w.heap.size w w'
def RetI (w : World) (ns : List Int) (e : Ending) (w' : World) : Prop := ∃ A n cap, e = .returned (.slice A n cap) ∧ IsI w' A n cap ns ∧ Below w.heap.size w w'
def RetCC (w : World) (ts : List (List C)) (e : Ending) (w' : World) : Prop := ∃ A n cap, e = .returned (.slice A n cap) ∧ IsCC w' A n cap ts ∧ Below w.heap.size w w'
theorem RetC.at_ {w : World} {cs : List C} {e : Ending} {w' : World} (h : RetC w cs e w') {n : Nat} (hl : cs.length = n) : ∃ A cap, e = .returned (.slice A n cap) ∧ IsC w' A n cap cs ∧ Below w.heap.size w w' := by
  obtain ⟨A, m, cap, he, hi, hb⟩ := h
  obtain rfl : m = n := by rw [← hi.len, hl]
  exact ⟨A, cap, he, hi, hb⟩
theorem RetI.at_ {w : World} {cs : List Int} {e : Ending} {w' : World} (h : RetI w cs e w') {n : Nat} (hl : cs.length = n) : ∃ A cap, e = .returned (.slice A n cap) ∧ IsI w' A n cap cs ∧ Below w.heap.size w w' := by
  obtain ⟨A, m, cap, he, hi, hb⟩ := h
  obtain rfl : m = n := by rw [← hi.len, hl]
  exact ⟨A, cap, he, hi, hb⟩
theorem RetD.v {w : World} {v : Value} {e : Ending} {w' : World} (h : RetD w v e w') : RetV w v e w' := by
  obtain ⟨h, n, rfl⟩ := h
  exact ⟨h, below_drewN (Below.refl _ _) n⟩
theorem IsC.drewN {w : World} {A : Option Addr} {n cap : Nat} {cs : List C} (h : IsC w A n cap cs) (d : Nat) : IsC (w.drewN d) A n cap cs := h.below (below_drewN (Below.refl _ _) d)
theorem IsI.drewN {w : World} {A : Option Addr} {n cap : Nat} {cs : List Int} (h : IsI w A n cap cs) (d : Nat) : IsI (w.drewN d) A n cap cs := h.below (below_drewN (Below.refl _ _) d)
theorem ret_int {k : IntKind} {a b : Int} (h : a = b) : Ending.returned (.int k a) = .returned (.int k b) := by rw [h]
theorem ret_bool {a b : Bool} (h : a = b) : Ending.returned (.bool a) = .returned (.bool b) := by rw [h]
end Go.Proofs.Ytdeaeiolehglaaa

/- The arguments of a law, opened: a slice of cells that came in reads as a list of cells; and so on. -/
namespace Go.Proofs.Ytdeaeiolehglaaa
open Go.RowKit Go.ChangeShapes Go.WideShapes Go.Deep

theorem fieldsC : Try.prog.underlying 45 = some (.struct (Try.prog.fieldsOf 45)) := by kernel_rfl
theorem fieldC0 : ((Try.prog.fieldsOf 45)[0]?).map (·.type) = some 3 := by kernel_rfl
theorem fieldC1 : ((Try.prog.fieldsOf 45)[1]?).map (·.type) = some 9 := by kernel_rfl
theorem fieldC2 : ((Try.prog.fieldsOf 45)[2]?).map (·.type) = some 3 := by kernel_rfl
theorem fieldC3 : (Try.prog.fieldsOf 45).size = 3 := by kernel_rfl
theorem cellsC : Try.prog.cellsOf 45 = 3 := by kernel_rfl
theorem cellsCs : Try.prog.cellsOf 22 = 1 := by kernel_rfl
theorem oneFieldsC : oneCellFields Try.prog (Try.prog.fieldsOf 45) = true := by kernel_rfl

theorem wf_i64 {n : Int} (h : (Lit.int .i64 n).wf = true) : i64 n := by
  simp [Lit.wf, IntKind.min, IntKind.max, IntKind.signed, IntKind.bits] at h
  unfold i64
  omega
theorem spot_none {w : World} {a : Addr} {v : Value} (h : w.cell? a = some v) : a.spot = none := World.cell?_spot h

theorem build_list {α : Type} (Pr : Nat → α → Prop) : ∀ n : Nat, (∀ i, i < n → ∃ c, Pr i c) → ∃ cs : List α, cs.length = n ∧ ∀ (i : Nat) (c : α), cs[i]? = some c → Pr i c := by
  intro n
  induction n with
  | zero => intro _; exact ⟨[], rfl, by simp⟩
  | succ n ih =>
    intro key
    obtain ⟨cs, h1, h2⟩ := ih (fun i hi => key i (by omega))
    obtain ⟨c, hc⟩ := key n (by omega)
    refine ⟨cs ++ [c], by simp [h1], fun i d hd => ?_⟩
    rw [List.getElem?_append] at hd
    split at hd
    · exact h2 i d hd
    · rename_i hi
      have : i = cs.length := by
        have := (List.getElem?_eq_some_iff.1 hd).1
        simp at this
        omega
      subst this
      simp at hd
      subst hd
      rw [h1]
      exact hc
section
variable {H : Type} {enc : TypeId × Value → H} {w : World} {base : Nat} {spare : Nat → Bool} {held : Bool}
theorem open_cells {fuel : Nat} {v : Value} {x : DataW H × List MemPlace} (h : DataW.trod enc Try.prog w base spare held fuel 22 [v] = some x) :
    ∃ A n cap cs, v = .slice A n cap ∧ IsC w A n cap cs := by
  rcases open_slice Try.underlying22 h with ⟨hcs, _⟩ | ⟨a, len, cap, m, n, D, Pl, hcs, _, hl, hm, hmm, _, hel⟩
  · simp at hcs
    exact ⟨none, 0, 0, [], hcs, IsC.nil w none 0 (by simp [maxLen])⟩
  · simp at hcs
    subst hcs
    have hlm : len ≤ m := by rw [hmm]; split <;> omega
    have key : ∀ i, i < len → ∃ c : C, c.wf ∧ w.cell? (a.add (i * 3)) = some (.int .i64 c.kind) ∧ w.cell? ((a.add (i * 3)).add 1) = some (.string c.name) ∧ w.cell? ((a.add (i * 3)).add 2) = some (.int .i64 c.n) := by
      intro i hi
      obtain ⟨cs', hc, ht'⟩ := hel i (by omega)
      rw [cellsC] at hc
      obtain ⟨ys, n', hn', hy, hlen, hyl, hf⟩ := DataW.trod_struct fieldsC ht'
      obtain ⟨_, hcl, hat⟩ := World.cells?_some hc
      have get : ∀ (j : Nat) (t : TypeId), ((Try.prog.fieldsOf 45)[j]?).map (·.type) = some t → ∃ u z, w.cell? ((a.add (i * 3)).add j) = some u ∧ DataW.trod enc Try.prog w base spare held n' t [u] = some z := by
        intro j t hj
        obtain ⟨f, hj', hft⟩ := Option.map_eq_some_iff.1 hj
        subst hft
        clear hj
        have hj := hj'
        obtain ⟨ho, hk⟩ := hone_of oneFieldsC j f hj
        have hjl : j < (Try.prog.fieldsOf 45).size := (Array.getElem?_eq_some_iff.1 hj).1
        rw [fieldC3] at hjl
        have hcell := hat j hjl
        have h1 := hf j f hj
        rw [ho, hk] at h1
        have hone' : (cs'.drop j).take 1 = [cs'[j]'(by omega)] := by
          rw [List.drop_eq_getElem_cons (by omega)]
          rfl
        rw [hone'] at h1
        have hys : ys[j]? = some (ys[j]'(by rw [hyl, fieldC3]; exact hjl)) := List.getElem?_eq_getElem _
        rw [List.getElem?_eq_getElem (by omega)] at hcell
        exact ⟨_, _, hcell, h1.trans hys⟩
      obtain ⟨u0, z0, c0, t0⟩ := get 0 _ fieldC0
      obtain ⟨u1, z1, c1, t1⟩ := get 1 _ fieldC1
      obtain ⟨u2, z2, c2, t2⟩ := get 2 _ fieldC2
      obtain ⟨k, e0, _, w0⟩ := DataW.trod_int Try.underlying3 t0
      obtain ⟨s, e1, _, w1⟩ := DataW.trod_string Try.underlying9 t1
      obtain ⟨q, e2, _, w2⟩ := DataW.trod_int Try.underlying3 t2
      simp at e0 e1 e2
      subst e0 e1 e2
      exact ⟨⟨k, s, q⟩, ⟨wf_i64 w0, wf_i64 w2, w1⟩, by simpa [Addr.add] using c0, c1, c2⟩
    have hcs := build_list _ len key
    obtain ⟨cs, hlen, hcell⟩ := hcs
    refine ⟨some a, len, cap, cs, rfl, ⟨by rw [flatC_len, hlen], hl, hm, fun hn => ?_⟩, fun c hc => ?_⟩
    · obtain ⟨b, off, spot⟩ := a
      obtain ⟨c, hc⟩ : ∃ c, cs[0]? = some c := ⟨_, List.getElem?_eq_getElem (by omega)⟩
      have h0 := (hcell 0 c hc).2.1
      have hs : spot = none := by simpa [Addr.add] using spot_none h0
      subst hs
      refine ⟨b, off, rfl, World.block_lt_of_cell? w _ h0, fun j u hu => ?_⟩
      have hadd : ∀ k, (⟨b, off, none⟩ : Addr).add k = ⟨b, off + k, none⟩ := fun k => by unfold Addr.add; split <;> simp_all
      have hadd' : ∀ o k, (⟨b, o, none⟩ : Addr).add k = ⟨b, o + k, none⟩ := fun o k => by unfold Addr.add; split <;> simp_all
      have hjl : j < cs.length * 3 := by
        have := (List.getElem?_eq_some_iff.1 hu).1
        rwa [flatC_len] at this
      obtain ⟨q, hq⟩ : ∃ q, cs[j / 3]? = some q := ⟨_, List.getElem?_eq_getElem (by omega)⟩
      obtain ⟨_, g0, g1, g2⟩ := hcell _ q hq
      obtain ⟨f0, f1, f2⟩ := flatC_get cs (j / 3) q hq
      rw [hadd] at g0 g1 g2
      rw [hadd'] at g1 g2
      have hm3 : j % 3 = 0 ∨ j % 3 = 1 ∨ j % 3 = 2 := by omega
      rcases hm3 with hm3 | hm3 | hm3
      · have e : j = j / 3 * 3 := by omega
        rw [e] at hu ⊢
        rw [f0] at hu
        injection hu with hu
        rw [← hu]
        exact g0
      · have e : j = j / 3 * 3 + 1 := by omega
        rw [e] at hu ⊢
        rw [f1] at hu
        injection hu with hu
        rw [← hu, ← Nat.add_assoc]
        exact g1
      · have e : j = j / 3 * 3 + 2 := by omega
        rw [e] at hu ⊢
        rw [f2] at hu
        injection hu with hu
        rw [← hu, ← Nat.add_assoc]
        exact g2
    · obtain ⟨i, hi, rfl⟩ := List.getElem_of_mem hc
      exact (hcell i _ (List.getElem?_eq_getElem hi)).1
theorem open_cc {fuel : Nat} {v : Value} {x : DataW H × List MemPlace} (h : DataW.trod enc Try.prog w base spare held fuel 52 [v] = some x) :
    ∃ A n cap ts, v = .slice A n cap ∧ IsCC w A n cap ts := by
  rcases open_slice Try.underlying52 h with ⟨hcs, _⟩ | ⟨a, len, cap, m, n, D, Pl, hcs, _, hl, hm, hmm, _, hel⟩
  · simp at hcs
    exact ⟨none, 0, 0, [], hcs, ⟨rfl, [], ⟨rfl, Nat.le_refl _, by simp [maxLen], fun h => absurd h (by omega)⟩, by simp⟩⟩
  · simp at hcs
    subst hcs
    have hlm : len ≤ m := by rw [hmm]; split <;> omega
    have key : ∀ i, i < len → ∃ c : Value × List C, w.cell? (a.add i) = some c.1 ∧ ∃ A' n' cap', c.1 = .slice A' n' cap' ∧ IsC w A' n' cap' c.2 := by
      intro i hi
      obtain ⟨cs', hc, ht'⟩ := hel i (by omega)
      rw [cellsCs] at hc
      obtain ⟨_, hcl, hat⟩ := World.cells?_some hc
      match cs', hcl with
      | [u], _ =>
        have hcell := hat 0 (by omega)
        obtain ⟨A', n', cap', cs, rfl, hcs⟩ := open_cells ht'
        exact ⟨(_, cs), by simpa [Addr.add] using hcell, _, _, _, rfl, hcs⟩
    obtain ⟨ps, hlen, hps⟩ := build_list _ len key
    refine ⟨some a, len, cap, ps.map (·.2), rfl, by simp [hlen], ps.map (·.1), ⟨by simp [hlen], hl, hm, fun hn => ?_⟩, fun i t hi => ?_⟩
    · obtain ⟨b, off, spot⟩ := a
      obtain ⟨c, hc⟩ : ∃ c, ps[0]? = some c := ⟨_, List.getElem?_eq_getElem (by omega)⟩
      have h0 := (hps 0 c hc).1
      have hs : spot = none := by simpa [Addr.add] using spot_none h0
      subst hs
      refine ⟨b, off, rfl, World.block_lt_of_cell? w _ h0, fun j u hu => ?_⟩
      rw [List.getElem?_map] at hu
      obtain ⟨q, hq, rfl⟩ := Option.map_eq_some_iff.1 hu
      have g := (hps j q hq).1
      have hadd : (⟨b, off, none⟩ : Addr).add j = ⟨b, off + j, none⟩ := by unfold Addr.add; split <;> simp_all
      rwa [hadd] at g
    · rw [List.getElem?_map] at hi
      obtain ⟨q, hq, rfl⟩ := Option.map_eq_some_iff.1 hi
      obtain ⟨_, A', n', cap', h1, h2⟩ := hps i q hq
      exact ⟨A', n', cap', by rw [List.getElem?_map, hq]; exact congrArg some h1, h2⟩
end
end Go.Proofs.Ytdeaeiolehglaaa

/- Terms as rows of cells, in plain words: which cells and names may be, and how a term is passed over. No program in sight. -/
namespace Go.Proofs.Ytdeaeiolehglaaa
open Go.RowKit

def oddB (b : UInt8) : Bool := decide (b.toNat < 32) || (decide (126 < b.toNat) || b.toNat == 39)
def okName (s : ByteArray) : Bool := !(s.data.toList.any oddB) && (decide (1 ≤ s.size) && decide (s.size ≤ 12))
def C.ok (c : C) : Bool :=
  if c.kind = 1 then decide (c.name.toList = []) && (decide (0 ≤ c.n) && decide (c.n ≤ 999))
  else if c.kind = 2 then decide (c.name.toList = []) && (decide (-2147483647 ≤ c.n) && decide (c.n ≤ 2147483647))
  else if c.kind = 3 then okName c.name && (decide (0 ≤ c.n) && decide (c.n ≤ 6))
  else false
def oddR (r : Int) : Bool := decide (r < 32) || (decide (126 < r) || r == 39)

theorem oddB_yes {b : UInt8} (h : (b.toNat : Int) < 32 ∨ 126 < (b.toNat : Int) ∨ (b.toNat : Int) = 39) : oddB b = true := by
  have h' : b.toNat < 32 ∨ 126 < b.toNat ∨ b.toNat = 39 := by omega
  simpa [oddB] using h'
theorem oddB_no {b : UInt8} (h1 : 32 ≤ (b.toNat : Int)) (h2 : (b.toNat : Int) ≤ 126) (h3 : (b.toNat : Int) ≠ 39) : oddB b = false := by
  have h1' : 32 ≤ b.toNat := by omega
  have h2' : b.toNat ≤ 126 := by omega
  have h3' : b.toNat ≠ 39 := by omega
  simp [oddB]; omega

theorem drop_cons (s : ByteArray) (k : Nat) (h : k < s.size) : s.data.toList.drop k = s[k] :: s.data.toList.drop (k + 1) := by
  rw [List.drop_eq_getElem_cons (by simpa using h)]
  rfl
theorem any_drop (p : UInt8 → Bool) (s : ByteArray) (k : Nat) (h : k < s.size) : (s.data.toList.drop k).any p = (p s[k] || (s.data.toList.drop (k + 1)).any p) := by
  rw [drop_cons s k h]; rfl

theorem decode_lt (s : ByteArray) (i : Nat) (hi : i < s.size) (h : s[i].toNat < 128) : Utf8.decode s i = (s[i].toNat, 1) := by
  have hg : s.get! i = s[i] := by simp [ByteArray.get!, getElem!_pos, hi]; rfl
  simp [Utf8.decode, hg, h]
theorem decode_ge (s : ByteArray) (i : Nat) (hi : i < s.size) (h : 128 ≤ s[i].toNat) : 128 ≤ (Utf8.decode s i).1 ∧ (Utf8.decode s i).1 ≤ 2147483647 ∧ 1 ≤ (Utf8.decode s i).2 := by
  have hg : s.get! i = s[i] := by simp [ByteArray.get!, getElem!_pos, hi]; rfl
  have e : ∀ k, (s.get! k).toNat < 256 := fun k => UInt8.toNat_lt _
  have e1 := e (i + 1)
  have e2 := e (i + 2)
  have e3 := e (i + 3)
  have e0 : s[i].toNat < 256 := UInt8.toNat_lt _
  simp only [Utf8.decode, Nat.add_zero, hg, Utf8.runeError]
  repeat' split
  all_goals first | omega | (dsimp only; omega) | (simp; omega) | (simp at *; omega)

/-- the runes of a string: one of them is odd just if one of its bytes is -/
theorem runes_odd (s : ByteArray) : ∀ (bound i : Nat) (acc : Array Value), s.size ≤ bound + i →
    ∃ rs : List Int, (Conv.runesFrom s bound i acc).toList = acc.toList ++ rs.map (Value.int .i32) ∧ (∀ r ∈ rs, -2147483648 ≤ r ∧ r ≤ 2147483647) ∧ rs.length ≤ bound ∧ rs.any oddR = (s.data.toList.drop i).any oddB := by
  intro bound
  induction bound with
  | zero =>
    intro i acc h
    refine ⟨[], by simp [Conv.runesFrom], by simp, by simp, ?_⟩
    rw [List.drop_of_length_le (by simp; omega)]
    rfl
  | succ bound ih =>
    intro i acc h
    by_cases hi : i < s.size
    · unfold Conv.runesFrom
      simp only [hi, if_true]
      by_cases hb : s[i].toNat < 128
      · rw [decode_lt s i hi hb]
        obtain ⟨rs, h1, h2, h3, h4⟩ := ih (i + 1) (acc.push (.int .i32 (Int.ofNat s[i].toNat))) (by omega)
        refine ⟨(s[i].toNat : Int) :: rs, by simpa using h1, ?_, by simpa using h3, ?_⟩
        · intro r hr
          rcases List.mem_cons.1 hr with rfl | hr
          · omega
          · exact h2 r hr
        · rw [any_drop oddB s i hi, List.any_cons, h4]
          congr 1
          simp only [oddR, oddB]
          congr 1
          · exact decide_eq_decide.2 (by omega)
          · congr 1
            · exact decide_eq_decide.2 (by omega)
            · rw [Bool.eq_iff_iff]; simp; omega
      · obtain ⟨g1, g2, g3⟩ := decode_ge s i hi (by omega)
        obtain ⟨rs, h1, h2, h3, h4⟩ := ih (i + (Utf8.decode s i).2) (acc.push (.int .i32 (Int.ofNat (Utf8.decode s i).1))) (by omega)
        refine ⟨((Utf8.decode s i).1 : Int) :: rs, by simpa using h1, ?_, by simpa using h3, ?_⟩
        · intro r hr
          rcases List.mem_cons.1 hr with rfl | hr
          · omega
          · exact h2 r hr
        · rw [any_drop oddB s i hi, List.any_cons, oddB_yes (by omega)]
          have : oddR ((Utf8.decode s i).1 : Int) = true := by
            have : 126 < ((Utf8.decode s i).1 : Int) := by omega
            simp [oddR, this]
          rw [this]; rfl
    · refine ⟨[], by unfold Conv.runesFrom; simp [hi], by simp, by simp, ?_⟩
      rw [List.drop_of_length_le (by simp; omega)]
      rfl

def idxF {α : Type} (p : α → Bool) : Nat → List α → Int
  | _, [] => -1
  | k, x :: l => if p x then k else idxF p (k + 1) l
theorem idxF_any {α : Type} (p : α → Bool) (l : List α) : ∀ k : Nat, decide (0 ≤ idxF p k l) = l.any p := by
  induction l with
  | nil => intro k; simp [idxF]
  | cons x l ih =>
    intro k
    by_cases h : p x
    · simp [idxF, h]
    · simp [idxF, h, ih (k + 1)]
theorem idxF_le {α : Type} (p : α → Bool) (l : List α) : ∀ k : Nat, -1 ≤ idxF p k l ∧ idxF p k l < k + l.length := by
  induction l with
  | nil => intro k; simp [idxF]; omega
  | cons x l ih =>
    intro k
    have := ih (k + 1)
    by_cases h : p x
    · simp [idxF, h]; omega
    · simp [idxF, h]; omega
end Go.Proofs.Ytdeaeiolehglaaa

/- Laws of the walk for operations that make memory, each in the form that the walk takes. No program in sight. -/
namespace Go.Proofs.Ytdeaeiolehglaaa
open Go.RowKit

structure IsR (w : World) (A : Option Addr) (n cap : Nat) (rs : List Int) : Prop where
  sl : Sl w 1 A n cap (rs.map (Value.int .i32))
  wf : ∀ x ∈ rs, -2147483648 ≤ x ∧ x ≤ 2147483647
theorem IsR.len {w : World} {A : Option Addr} {n cap : Nat} {rs : List Int} (h : IsR w A n cap rs) : rs.length = n := by
  have := h.sl.len
  rw [List.length_map] at this
  omega
theorem IsR.at_ {w : World} {A : Option Addr} {n cap : Nat} {rs : List Int} (h : IsR w A n cap rs) {k : Nat} {x : Int} (hk : rs[k]? = some x) :
    ∃ b off, A = some ⟨b, off, none⟩ ∧ b < w.heap.size ∧ (-2147483648 ≤ x ∧ x ≤ 2147483647) ∧ w.cell? ⟨b, off + k, none⟩ = some (.int .i32 x) := by
  have hlt : k < rs.length := (List.getElem?_eq_some_iff.1 hk).1
  obtain ⟨b, off, rfl, hb, hc⟩ := h.sl.cells (by have := h.len; omega)
  exact ⟨b, off, rfl, hb, h.wf x (List.mem_of_getElem? hk), hc _ _ (by rw [List.getElem?_map, hk]; rfl)⟩
theorem IsR.get {w : World} {A : Option Addr} {n cap : Nat} {rs : List Int} (h : IsR w A n cap rs) {k : Nat} (hk : k < n) : ∃ x, rs[k]? = some x :=
  ⟨_, List.getElem?_eq_getElem (by have := h.len; omega)⟩

section
variable {P : Program} {w : World} {ops : Array Oper} {rest : List Oper} {o : Oper} {a : Act} {Q : Exit → Act → World → Prop}

/-- an operation whose run is known: the walk goes on behind it -/
theorem wpList_run (hw : Region.wanted o (yielded ops a.tmps) = true) {Φ : Value → World → Prop} (hr : ∃ v w', (execOp a.eval o).run P w = .ok (.value v) w' ∧ Φ v w')
    (k : ∀ v w', Φ v w' → wpList P ops Q rest (a.put o.dst v) w') : wpList P ops Q (o :: rest) a w := by
  obtain ⟨v, w', hr, hp⟩ := hr
  refine wpList_step fun K hK => ?_
  rw [if_pos hw]
  unfold Oper.wp
  rw [hr]
  exact hK _ _ (k v w' hp)

theorem run_convert_op {x : Operand} {src dst : TypeId} {v u : Value} {w' : World} (hop : o.op = Op.convert src dst x) (hx : a.eval x = v) (hr : (convert src dst v).run P w = .ok u w') : (execOp a.eval o).run P w = .ok (.value u) w' := by
  simp only [execOp, hop, hx, Sem.run_bind, hr, Result.andThen_ok, Sem.run_pure]
/-- '[]rune(s)' -/
theorem wpList_runes (hw : Region.wanted o (yielded ops a.tmps) = true) (x : Operand) (src dst e : TypeId) (hop : o.op = Op.convert src dst x)
    (hs : P.underlying src = some .string) (hd : P.underlying dst = some (.slice e)) (he : P.underlying e = some (.int .i32)) (s : ByteArray) (hx : a.eval x = .string s) (hsz : s.size ≤ 100000)
    (k : ∀ A n cap w' rs, Below w.heap.size w w' → IsR w' A n cap rs → n ≤ 100000 → rs.any oddR = s.data.toList.any oddB → wpList P ops Q rest (a.put o.dst (.slice A n cap)) w') : wpList P ops Q (o :: rest) a w := by
  obtain ⟨rs, h1, h2, h3, h4⟩ := runes_odd s s.size 0 #[] (by omega)
  have h1' : (Conv.runesFrom s s.size 0 #[]).toList = rs.map (Value.int .i32) := by simpa using h1
  have hl : (Conv.runesFrom s s.size 0 #[]).size = rs.length := by rw [← Array.length_toList, h1', List.length_map]
  have hrun := run_runes_of_string (P := P) w src dst e s hs hd he (by omega)
  have hrun' := run_convert_op hop hx hrun
  refine wpList_run (Φ := fun v w' => ∃ A n cap, v = .slice A n cap ∧ Below w.heap.size w w' ∧ IsR w' A n cap rs ∧ n ≤ 100000) hw ⟨_, _, hrun', _, _, _, rfl, ?_, ⟨⟨?_, ?_, ?_, fun _ => ⟨_, 0, rfl, ?_, ?_⟩⟩, h2⟩, by omega⟩ ?_
  · exact ((Below.refl _ _).drew).alloc (Nat.le_refl _) _
  · simpa using hl.symm
  · exact grownCap_ge _ _ _ _
  · exact grownCap_le_maxLen _ _ _ _ (by simp only [maxLen]; omega)
  · simp
  · intro j u hu
    have hj : j < rs.length := by
      have := (List.getElem?_eq_some_iff.1 hu).1
      simpa using this
    have hc : ∀ (C : Array Value), C[j]? = some u → (w.drew.alloc (.cells C e)).cell? ⟨w.heap.size, j, none⟩ = some u := fun C hC => by
      have := World.cell?_alloc_mark w.drew C e (0, 0) j
      exact this.trans hC
    rw [Nat.zero_add]
    apply hc
    rw [Array.getElem?_append_left (by omega), ← Array.getElem?_toList, h1', hu]
  · rintro v w' ⟨A, n, cap, rfl, hb, hi, hn⟩
    exact k A n cap w' rs hb hi hn (by simpa using h4)

theorem run_append_of_nil (base : Nat) (t ty e : TypeId) (i : TypeInfo) (size : Nat) (ht : P.underlying t = some (.slice e)) (hi : P.info? e = some i)
    (v : Value) (n : Nat) (xs : List Value) (hown : w.ownsRow base e size v n xs) (c : Nat) : (Builtin.append_ #[t, t] ty #[v, .slice none 0 c]).run P w = .ok v w := by
  rcases hown.2 with ⟨rfl, rfl⟩ | ⟨g, cap, cur, rfl, _, _, hnc, _⟩
  · simp [Builtin.append_, run_underlying ht, sizeOf, typeInfo, hi, Builtin.lenOf, Builtin.firstCells]
  · simp [Builtin.append_, run_underlying ht, sizeOf, typeInfo, hi, Builtin.lenOf, Builtin.firstCells, hnc, storeCells]

theorem run_append_sl (base : Nat) (t ty e : TypeId) (i : TypeInfo) (z : Value) (size bytes : Nat) (ht : P.underlying t = some (.slice e)) (hi : P.info? e = some i) (hz : i.zero = some z)
    (hsize : i.size = size) (hby : i.bytes = bytes) (hzs : z.cells.size = size) (hsz : 0 < size)
    (v : Value) (n : Nat) (xs : List Value) (hown : w.ownsRow base e size v n xs)
    (A : Option Addr) (m c : Nat) (news : List Value) (hr : Sl w size A m c news) (h1 : ∀ u ∈ news, u.oneCell' = true)
    (h63 : n + m ≤ maxLen) (hbytes : (n + m) * bytes ≤ 140737488355328) (hbase : base ≤ w.heap.size) :
    ∃ v' w', (Builtin.append_ #[t, t] ty #[v, .slice A m c]).run P w = .ok v' w' ∧ w'.ownsRow base e size v' (n + m) (xs ++ news) ∧ w.grownBy w' v.ownBlock ∧
      (v'.ownBlock = v.ownBlock ∨ v'.ownBlock = some w.heap.size) := by
  rcases A with _ | ad
  · have hm : m = 0 := by
      rcases Nat.eq_zero_or_pos m with h0 | h0
      · exact h0
      · obtain ⟨b, off, h, _⟩ := hr.cells h0
        cases h
    subst hm
    have hn : news = [] := List.eq_nil_of_length_eq_zero (by simpa using hr.len)
    subst hn
    exact ⟨v, w, run_append_of_nil base t ty e i size ht hi v n xs hown c, by simpa using hown, World.grownBy.refl w _, .inl rfl⟩
  · have hcells : ∀ j u, news[j]? = some u → w.cell? (ad.add j) = some u := by
      intro j u hu
      rcases Nat.eq_zero_or_pos m with h0 | h0
      · subst h0
        have hn : news = [] := List.eq_nil_of_length_eq_zero (by simpa using hr.len)
        subst hn
        simp at hu
      · obtain ⟨b, off, h, _, hc⟩ := hr.cells h0
        injection h with h
        subst h
        have hadd : (⟨b, off, none⟩ : Addr).add j = ⟨b, off + j, none⟩ := by unfold Addr.add; split <;> simp_all
        rw [hadd]
        exact hc j u hu
    obtain ⟨v', w', hrun, h2, h3, _, h5⟩ := run_append_own_at (P := P) w base t ty e i z size bytes ht hi hz hsize hby hzs hsz v n xs hown ad m c news hr.len hcells h1 h63 hbytes hbase
    exact ⟨v', w', hrun, h2, h3, h5⟩

/-- 'append(s, x...)', s a row of the call's own, x whatever reads as a list -/
theorem wpList_append_sl (hw : Region.wanted o (yielded ops a.tmps) = true) (s x : Operand) (t : TypeId) (ho : o.op = .call { callee := .builtin .append, args := #[s, x], argTypes := #[t, t] })
    (base : Nat) (e : TypeId) {z : Value} {size bytes : Nat} (ht : P.underlying t = some (.slice e)) (hinfo : (P.info? e).map (fun i => (i.zero, i.size, i.bytes)) = some (some z, size, bytes))
    (hzs : z.cells.size = size) (hsz : 0 < size) {v : Value} {n : Nat} {xs : List Value} (hs : a.eval s = v) (hown : w.ownsRow base e size v n xs)
    {A : Option Addr} {m c : Nat} {news : List Value} (hx : a.eval x = .slice A m c) (hr : Sl w size A m c news) (h1 : ∀ u ∈ news, u.oneCell' = true)
    (h63 : n + m ≤ 1000000000000) (hbyt : bytes ≤ 64) (hbase : base ≤ w.heap.size)
    (k : ∀ A' cap' w', w'.ownsRow base e size (.slice A' (n + m) cap') (n + m) (xs ++ news) → Below base w w' → w.grownBy w' v.ownBlock → ((Value.slice A' (n + m) cap').ownBlock = v.ownBlock ∨ (Value.slice A' (n + m) cap').ownBlock = some w.heap.size) → wpList P ops Q rest (a.put o.dst (.slice A' (n + m) cap')) w') :
    wpList P ops Q (o :: rest) a w := by
  obtain ⟨i, hi, hz, hsize, hby⟩ := info_parts hinfo
  obtain ⟨v', w', hrun, h2, h3, h4⟩ := run_append_sl (P := P) base t o.type e i z size bytes ht hi hz hsize hby hzs hsz v n xs hown A m c news hr h1 (by simp only [maxLen]; omega)
    (by have : (n + m) * bytes ≤ 1000000000000 * 64 := Nat.mul_le_mul h63 hbyt; omega) hbase
  have hlt := hown.lt
  refine wpList_run (Φ := fun v' w' => w'.ownsRow base e size v' (n + m) (xs ++ news) ∧ w.grownBy w' v.ownBlock ∧ (v'.ownBlock = v.ownBlock ∨ v'.ownBlock = some w.heap.size)) hw ⟨v', w', ?_, h2, h3, h4⟩ ?_
  · simp only [execOp, ho, resolve, invoke, builtin, Sem.run_bind, Sem.run_pure, Result.andThen_ok, List.map_toArray, List.map_cons, List.map_nil, hs, hx, hrun]
  · rintro v2 w2 ⟨g1, g2, g3⟩
    obtain ⟨A', cap', rfl, _⟩ := Sl.of_own g1 hsz
    exact k A' cap' w2 g1 ((Below.refl base w).grown g2 hbase (fun q hq => (hlt q hq).1)) g2 g3
end
theorem Sl.own {w : World} {base size n cap : Nat} {e : TypeId} {A : Option Addr} {xs : List Value} (h : w.ownsRow base e size (.slice A n cap) n xs) (hs : 0 < size) : Sl w size A n cap xs := by
  obtain ⟨A', cap', he, h⟩ := Sl.of_own h hs
  injection he with h1 h2 h3
  subst h1
  subst h3
  exact h
/-- a slice literal that has just been made -/
theorem Sl.lit (w : World) (g : Nat) (cs : List Value) (t : TypeId) (size n : Nat) (hg : w.heap.size = g) (hl : cs.length = n * size) (hn : n ≤ maxLen) : Sl (w.alloc (.cells cs.toArray t)) size (some ⟨g, 0, none⟩) n n cs :=
  ⟨hl, Nat.le_refl _, hn, fun _ => ⟨_, 0, rfl, by simp [hg], fun j u hu => by
    rw [Nat.zero_add, ← hg]
    exact (World.cell?_alloc_mark w cs.toArray t (0, 0) j).trans (by simpa using hu)⟩⟩
theorem one1 {u : Value} (h : u.oneCell' = true) : ∀ x ∈ [u], x.oneCell' = true := by simpa using h
theorem own_below {w w' : World} {base : Nat} {e : TypeId} {size : Nat} {v : Value} {n : Nat} {xs : List Value} (h : w.ownsRow base e size v n xs) (hb : Below w.heap.size w w') : w'.ownsRow base e size v n xs := by
  refine ⟨h.1, ?_⟩
  rcases h.2 with h2 | ⟨g, cap, cur, hv, hg, hh, r⟩
  · exact Or.inl h2
  · exact Or.inr ⟨g, cap, cur, hv, hg, by rw [hb.block g (Array.getElem?_eq_some_iff.1 hh).1]; exact hh, r⟩
theorem oneC (cs : List C) : ∀ u ∈ flatC cs, u.oneCell' = true := by
  intro u hu
  obtain ⟨c, _, h⟩ := List.mem_flatMap.1 hu
  simp [C.flat] at h
  rcases h with rfl | rfl | rfl <;> rfl
theorem oneI (k : IntKind) (ns : List Int) : ∀ u ∈ ns.map (Value.int k), u.oneCell' = true := by
  intro u hu
  obtain ⟨c, _, rfl⟩ := List.mem_map.1 hu
  rfl
end Go.Proofs.Ytdeaeiolehglaaa

/- What the functions of layer 1 compute, in plain words over lists of cells. No program in sight. -/
namespace Go.Proofs.Ytdeaeiolehglaaa
open Go.RowKit

theorem beq_iff (a b : C) : a.beq b = true ↔ a = b := by
  obtain ⟨k, s, n⟩ := a
  obtain ⟨k', s', n'⟩ := b
  simp only [C.beq, Bool.and_eq_true, beq_iff_eq, C.mk.injEq]
  constructor
  · rintro ⟨h1, h2, h3⟩
    refine ⟨h1, ?_, h3⟩
    have := beq_toListBytes s s'
    rw [ByteArray.toList_eq, ByteArray.toList_eq] at h2
    obtain ⟨⟨x⟩⟩ := s
    obtain ⟨⟨y⟩⟩ := s'
    simp at h2
    rw [h2]
  · rintro ⟨rfl, rfl, rfl⟩
    exact ⟨rfl, rfl, rfl⟩
theorem beq_no (a b : C) : a.beq b = false ↔ a ≠ b := by
  rw [← Bool.not_eq_true, beq_iff]

def sameC : List C → List C → Bool
  | [], [] => true
  | a :: asx, b :: bs => a.beq b && sameC asx bs
  | _, _ => false
theorem sameC_iff : ∀ a b : List C, sameC a b = true ↔ a = b
  | [], [] => by simp [sameC]
  | [], b :: bs => by simp [sameC]
  | a :: asx, [] => by simp [sameC]
  | a :: asx, b :: bs => by simp [sameC, beq_iff, sameC_iff asx bs]
theorem sameC_len {a b : List C} (h : a.length ≠ b.length) : sameC a b = false := by
  rw [← Bool.not_eq_true, sameC_iff]
  rintro rfl
  exact h rfl
def sameI : List Int → List Int → Bool
  | [], [] => true
  | a :: asx, b :: bs => a == b && sameI asx bs
  | _, _ => false
theorem sameI_iff : ∀ a b : List Int, sameI a b = true ↔ a = b
  | [], [] => by simp [sameI]
  | [], b :: bs => by simp [sameI]
  | a :: asx, [] => by simp [sameI]
  | a :: asx, b :: bs => by simp [sameI, sameI_iff asx bs]
theorem sameI_len {a b : List Int} (h : a.length ≠ b.length) : sameI a b = false := by
  rw [← Bool.not_eq_true, sameI_iff]
  rintro rfl
  exact h rfl
def sameCC : List (List C) → List (List C) → Bool
  | [], [] => true
  | a :: asx, b :: bs => sameC a b && sameCC asx bs
  | _, _ => false
theorem sameCC_iff : ∀ a b : List (List C), sameCC a b = true ↔ a = b
  | [], [] => by simp [sameCC]
  | [], b :: bs => by simp [sameCC]
  | a :: asx, [] => by simp [sameCC]
  | a :: asx, b :: bs => by simp [sameCC, sameC_iff, sameCC_iff asx bs]
theorem sameCC_len {a b : List (List C)} (h : a.length ≠ b.length) : sameCC a b = false := by
  rw [← Bool.not_eq_true, sameCC_iff]
  rintro rfl
  exact h rfl

theorem drop_get {α : Type} {l : List α} {k : Nat} {x : α} (h : l[k]? = some x) : l.drop k = x :: l.drop (k + 1) := by
  obtain ⟨hl, he⟩ := List.getElem?_eq_some_iff.1 h
  rw [List.drop_eq_getElem_cons hl, he]
theorem drop_end {α : Type} {l : List α} {k n : Nat} (h : l.length = n) (hk : ¬ k < n) : l.drop k = [] := List.drop_of_length_le (by omega)

def inI (ns : List Int) (x : Int) : Bool := ns.any fun y => y == x
theorem inI_iff (ns : List Int) (x : Int) : inI ns x = true ↔ x ∈ ns := by simp [inI]
def placeI (ns : List Int) (x : Int) : Int := idxF (fun y => y == x) 0 ns

/-- passing over terms: 'skip cs k': what stands behind the first k terms, if they are there -/
def C.ar (c : C) : Nat := if c.kind = 3 then c.n.toNat else 0
def skip : List C → Nat → Option (List C)
  | cs, 0 => some cs
  | [], _ + 1 => none
  | c :: cs, k + 1 => if c.ok then skip cs (k + c.ar) else none
def endN (t : List C) (at_ : Nat) : Option Nat := (skip (t.drop at_) 1).map fun r => t.length - r.length
def endR (t : List C) (at_ : Nat) : Int := match endN t at_ with | some e => e | none => -1
def endT (t : List C) (at_ : Nat) : Int := match endN t at_ with | some e => e | none => 0
def rightB (t : List C) : Bool := (decide (1 ≤ t.length) && decide (t.length ≤ 200)) && (endN t 0 == some t.length)

def varsA : List Int → List C → List Int
  | acc, [] => acc
  | acc, c :: cs => if c.kind = 1 ∧ inI acc c.n = false then varsA (acc ++ [c.n]) cs else varsA acc cs
def varsF (t : List C) : List Int := varsA [] t
def groundF (t : List C) : Bool := !(t.any fun c => c.kind == 1)

def partsA (t : List C) : Nat → Nat → List (List C)   -- how many are left, where
  | 0, _ => []
  | k + 1, at_ => match endN t at_ with
    | some e => (t.drop at_).take (e - at_) :: partsA t k e
    | none => []
def partsF (t : List C) : List (List C) := match t with
  | [] => []
  | c :: _ => if c.kind = 3 then partsA t c.n.toNat 1 else []
def turnF (f : Int → Int) (t : List C) : List C := t.map fun c => if c.kind = 1 then { c with n := f c.n } else c
def shiftF (t : List C) (by_ : Int) : List C := if rightB (turnF (fun n => wrap64 (n + by_)) t) then turnF (fun n => wrap64 (n + by_)) t else []
def numberF (t : List C) : List C := turnF (placeI (varsF t)) t

def cmpI (a b : Int) : Int := if a < b then -1 else if b < a then 1 else 0
def cmpS (a b : ByteArray) : Int := if Op.bytesLess a.toList b.toList then -1 else if a.toList == b.toList then 0 else 1
def cmpC (a b : C) : Int := if cmpI a.kind b.kind ≠ 0 then cmpI a.kind b.kind else if cmpI a.n b.n ≠ 0 then cmpI a.n b.n else cmpS a.name b.name
def compareT : List C → List C → Int
  | [], [] => 0
  | [], _ :: _ => -1
  | _ :: _, [] => 1
  | a :: asx, b :: bs => if cmpC a b ≠ 0 then cmpC a b else compareT asx bs
def compareR : List C → List C → Int
  | a :: asx, b :: bs => if a.beq b then compareR asx bs else if a.kind < b.kind ∨ a.kind = b.kind ∧ (a.n < b.n ∨ a.n = b.n ∧ Op.bytesLess a.name.toList b.name.toList = true) then -1 else 1
  | _, _ => 0
def makeF (name : ByteArray) (l : List (List C)) : List C :=
  if l.all rightB && rightB (⟨3, name, l.length⟩ :: l.flatten) then ⟨3, name, l.length⟩ :: l.flatten else []
end Go.Proofs.Ytdeaeiolehglaaa

/- 'append' upon an empty literal, or upon a row of the call's own. No program in sight. -/
namespace Go.Proofs.Ytdeaeiolehglaaa
open Go.RowKit

section
variable {P : Program} {ops : Array Oper} {rest : List Oper} {o : Oper} {a : Act} {w : World} {Q : Exit → Act → World → Prop}
/-- an empty slice without room, wherever it lies, or a row of the call's own -/
def Own0 (w : World) (base : Nat) (e : TypeId) (size : Nat) (v : Value) (n : Nat) (xs : List Value) : Prop :=
  (∃ A, v = .slice A 0 0 ∧ n = 0 ∧ xs = []) ∨ w.ownsRow base e size v n xs
theorem own_lower {w : World} {base base' : Nat} {e : TypeId} {size : Nat} {v : Value} {n : Nat} {xs : List Value} (h : w.ownsRow base e size v n xs) (hb : base' ≤ base) : w.ownsRow base' e size v n xs := by
  refine ⟨h.1, ?_⟩
  rcases h.2 with h2 | ⟨g, cap, cur, hv, hg, r⟩
  · exact Or.inl h2
  · exact Or.inr ⟨g, cap, cur, hv, by omega, r⟩
theorem Own0.below {w w' : World} {base : Nat} {e : TypeId} {size : Nat} {v : Value} {n : Nat} {xs : List Value} (h : Own0 w base e size v n xs) (hb : Below w.heap.size w w') : Own0 w' base e size v n xs := by
  rcases h with h | h
  · exact .inl h
  · exact .inr (own_below h hb)
theorem Own0.sl {w : World} {base size n cap : Nat} {e : TypeId} {A : Option Addr} {xs : List Value} (h : Own0 w base e size (.slice A n cap) n xs) (hs : 0 < size) : Sl w size A n cap xs := by
  rcases h with ⟨A', he, rfl, rfl⟩ | h
  · injection he with _ _ h3
    subst h3
    exact ⟨by simp, Nat.le_refl _, by simp [maxLen], fun h => absurd h (by omega)⟩
  · exact Sl.own h hs
theorem wpList_append_own0 (hw : Region.wanted o (yielded ops a.tmps) = true) (s x : Operand) (t : TypeId) (ho : o.op = .call { callee := .builtin .append, args := #[s, x], argTypes := #[t, t] })
    (base : Nat) (e : TypeId) {z : Value} {size bytes : Nat} (ht : P.underlying t = some (.slice e)) (hinfo : (P.info? e).map (fun i => (i.zero, i.size, i.bytes)) = some (some z, size, bytes))
    (hzs : z.cells.size = size) (hsz : 0 < size) {v : Value} {n : Nat} {xs : List Value} (hs : a.eval s = v) (hown : Own0 w base e size v n xs)
    {A : Option Addr} {m c : Nat} {news : List Value} (hx : a.eval x = .slice A m c) (hr : Sl w size A m c news) (h1 : ∀ u ∈ news, u.oneCell' = true) (hm : 0 < m)
    (h63 : n + m ≤ 1000000000000) (hbyt : bytes ≤ 64) (hbase : base ≤ w.heap.size)
    (k : ∀ A' cap' w', w'.ownsRow base e size (.slice A' (n + m) cap') (n + m) (xs ++ news) → Below base w w' → wpList P ops Q rest (a.put o.dst (.slice A' (n + m) cap')) w') :
    wpList P ops Q (o :: rest) a w := by
  rcases hown with ⟨As, rfl, rfl, rfl⟩ | hown
  · cases As with
    | none => exact wpList_append_sl hw s x t ho base e ht hinfo hzs hsz hs (World.ownsRow_nil w base e size) hx hr h1 h63 hbyt hbase fun A' cap' w' h2 h3 _ _ => k A' cap' w' h2 h3
    | some b =>
      obtain ⟨i, hi, hz, hsize, hby⟩ := info_parts hinfo
      obtain ⟨b', off, rfl, hlt, hc⟩ := hr.cells hm
      obtain ⟨v', w', hrun, h2, h3⟩ := run_append_arg_grows (P := P) w t o.type e i z size bytes ht hi hz hsize hby hzs hsz b 0 0 [] (by simp) (by simp) ⟨b', off, none⟩ m c news hr.len
        (fun j u hu => by rw [Addr.add_lit]; exact hc j u hu) (by omega) (by simp only [maxLen]; omega) (by have : (0 + m) * bytes ≤ 1000000000000 * 64 := Nat.mul_le_mul h63 hbyt; omega)
      refine wpList_run (Φ := fun v' w' => w'.ownsRow w.heap.size e size v' (0 + m) ([] ++ news) ∧ w.grownBy w' none) hw ⟨v', w', ?_, h2, h3⟩ ?_
      · simp only [execOp, ho, resolve, invoke, builtin, Sem.run_bind, Sem.run_pure, Result.andThen_ok, List.map_toArray, List.map_cons, List.map_nil, hs, hx, hrun]
      · rintro v2 w2 ⟨g1, g2⟩
        obtain ⟨A', cap', rfl, _⟩ := Sl.of_own g1 hsz
        exact k A' cap' w2 (own_lower g1 hbase) ((Below.refl base w).grown g2 hbase (fun q hq => by cases hq))
  · exact wpList_append_sl hw s x t ho base e ht hinfo hzs hsz hs hown hx hr h1 h63 hbyt hbase fun A' cap' w' h2 h3 _ _ => k A' cap' w' h2 h3
end
end Go.Proofs.Ytdeaeiolehglaaa

/- A slice whose elements are read by a relation: rows of structs, rows of rows. No program in sight. -/
namespace Go.Proofs.Ytdeaeiolehglaaa
open Go.RowKit

/-- elements of k places each; R w x v: in w the places v are the element x -/
structure IsG {α : Type} (R : World → α → List Value → Prop) (k : Nat) (w : World) (A : Option Addr) (n cap : Nat) (xs : List α) : Prop where
  len : xs.length = n
  rows : ∃ vs : List (List Value), vs.length = xs.length ∧ (∀ v ∈ vs, v.length = k) ∧ Sl w k A n cap vs.flatten ∧ ∀ (i : Nat) (x : α) (v : List Value), xs[i]? = some x → vs[i]? = some v → R w x v
/-- a relation that later worlds keep -/
def Keeps {α : Type} (R : World → α → List Value → Prop) : Prop := ∀ w w' x v, R w x v → Below w.heap.size w w' → R w' x v

theorem flatten_len {k : Nat} : ∀ {vs : List (List Value)}, (∀ v ∈ vs, v.length = k) → vs.flatten.length = vs.length * k
  | [], _ => by simp
  | v :: vs, h => by
    rw [List.flatten_cons, List.length_append, h v (by simp), flatten_len (fun u hu => h u (by simp [hu])), List.length_cons, Nat.succ_mul]; omega
theorem flatten_get {k : Nat} : ∀ {vs : List (List Value)} {i j : Nat} {v : List Value} {u : Value}, (∀ v ∈ vs, v.length = k) → vs[i]? = some v → v[j]? = some u → vs.flatten[i * k + j]? = some u
  | [], i, j, v, u, _, hi, _ => by simp at hi
  | v0 :: vs, i, j, v, u, h, hi, hj => by
    have h0 := h v0 (by simp)
    rw [List.flatten_cons]
    cases i with
    | zero =>
      simp at hi
      subst hi
      have := (List.getElem?_eq_some_iff.1 hj).1
      rw [Nat.zero_mul, Nat.zero_add, List.getElem?_append_left this, hj]
    | succ i =>
      have hi' : vs[i]? = some v := by simpa using hi
      have hj' := (List.getElem?_eq_some_iff.1 hj).1
      rw [List.getElem?_append_right (by rw [Nat.succ_mul]; omega), show (i + 1) * k + j - v0.length = i * k + j by rw [Nat.succ_mul]; omega]
      exact flatten_get (fun u hu => h u (by simp [hu])) hi' hj

section
variable {α : Type} {R : World → α → List Value → Prop} {k : Nat} {w w' : World} {A : Option Addr} {n cap : Nat} {xs : List α}
theorem IsG.below (hR : Keeps R) (h : IsG R k w A n cap xs) (hb : Below w.heap.size w w') : IsG R k w' A n cap xs := by
  obtain ⟨vs, h1, h2, h3, h4⟩ := h.rows
  exact ⟨h.len, vs, h1, h2, h3.below hb, fun i x v hx hv => hR _ _ _ _ (h4 i x v hx hv) hb⟩
theorem IsG.cap_le (h : IsG R k w A n cap xs) : n ≤ cap ∧ cap ≤ maxLen := by
  obtain ⟨vs, h1, h2, h3, h4⟩ := h.rows
  exact ⟨h3.hcap, h3.hmax⟩
theorem IsG.get (h : IsG R k w A n cap xs) {i : Nat} (hi : i < n) : ∃ x, xs[i]? = some x := ⟨_, List.getElem?_eq_getElem (by have := h.len; omega)⟩
theorem IsG.at_ (h : IsG R k w A n cap xs) {i : Nat} {x : α} (hx : xs[i]? = some x) :
    ∃ b off v, A = some ⟨b, off, none⟩ ∧ b < w.heap.size ∧ v.length = k ∧ R w x v ∧ ∀ j u, v[j]? = some u → w.cell? ⟨b, off + i * k + j, none⟩ = some u := by
  have hlt : i < xs.length := (List.getElem?_eq_some_iff.1 hx).1
  obtain ⟨vs, h1, h2, h3, h4⟩ := h.rows
  obtain ⟨v, hv⟩ : ∃ v, vs[i]? = some v := ⟨_, List.getElem?_eq_getElem (by omega)⟩
  obtain ⟨b, off, rfl, hb, hc⟩ := h3.cells (by have := h.len; omega)
  exact ⟨b, off, v, rfl, hb, h2 v (List.mem_of_getElem? hv), h4 i x v hx hv, fun j u hu => by rw [Nat.add_assoc]; exact hc _ _ (flatten_get h2 hv hu)⟩
theorem IsG.nil (hc : cap ≤ maxLen) : IsG R k w A 0 cap [] := ⟨rfl, [], rfl, by simp, ⟨by simp, Nat.zero_le _, hc, fun h => absurd h (by omega)⟩, by simp⟩
theorem IsG.take (h : IsG R k w A n cap xs) {m : Nat} (hm : m ≤ n) : IsG R k w A m cap (xs.take m) := by
  obtain ⟨vs, h1, h2, h3, h4⟩ := h.rows
  have hl := h.len
  refine ⟨by rw [List.length_take]; omega, vs.take m, by rw [List.length_take, List.length_take, h1], fun v hv => h2 v (List.mem_of_mem_take hv), ⟨?_, Nat.le_trans hm h3.hcap, h3.hmax, fun hm0 => ?_⟩, fun i x v hx hv => ?_⟩
  · rw [flatten_len (fun v hv => h2 v (List.mem_of_mem_take hv)), List.length_take]; congr 1; omega
  · obtain ⟨b, off, rfl, hb, hc⟩ := h3.cells (by omega)
    refine ⟨b, off, rfl, hb, fun j u hu => hc j u ?_⟩
    have hs : vs.flatten = (vs.take m).flatten ++ (vs.drop m).flatten := by rw [← List.flatten_append, List.take_append_drop]
    rw [hs, List.getElem?_append_left (List.getElem?_eq_some_iff.1 hu).1]
    exact hu
  · rw [List.getElem?_take] at hx hv
    split at hx
    · rename_i hi; rw [if_pos hi] at hv; exact h4 i x v hx hv
    · cases hx
theorem flatten_drop {k : Nat} : ∀ {vs : List (List Value)} (m : Nat), (∀ v ∈ vs, v.length = k) → vs.flatten.drop (m * k) = (vs.drop m).flatten
  | [], m, _ => by simp
  | v :: vs, 0, _ => by simp
  | v :: vs, m + 1, h => by
    have h0 := h v (by simp)
    rw [List.flatten_cons, Nat.succ_mul, List.drop_append, h0, List.drop_of_length_le (by omega), List.nil_append, show m * k + k - k = m * k by omega, List.drop_succ_cons]
    exact flatten_drop m (fun u hu => h u (by simp [hu]))
theorem IsG.drop (h : IsG R k w A n cap xs) {m : Nat} (hm : m ≤ n) : IsG R k w (if cap = m then A else A.map (·.add (m * k))) (n - m) (cap - m) (xs.drop m) := by
  obtain ⟨vs, h1, h2, h3, h4⟩ := h.rows
  have hl := h.len
  refine ⟨by rw [List.length_drop]; omega, vs.drop m, by rw [List.length_drop, List.length_drop, h1], fun v hv => h2 v (List.mem_of_mem_drop hv), ?_, fun i x v hx hv => ?_⟩
  · rw [← flatten_drop m h2]
    have hlen := h3.len
    have hmul : (n - m) * k = n * k - m * k := Nat.sub_mul n m k
    refine ⟨by rw [List.length_drop, hlen, hmul], by have := h3.hcap; omega, by have := h3.hmax; omega, fun hn => ?_⟩
    obtain ⟨b, off, rfl, hb, hc⟩ := h3.cells (by omega)
    rw [if_neg (by have := h3.hcap; omega)]
    refine ⟨b, off + m * k, by simp [Addr.add], hb, fun j u hu => ?_⟩
    rw [List.getElem?_drop] at hu
    have := hc _ u hu
    rwa [← Nat.add_assoc] at this
  · rw [List.getElem?_drop] at hx hv
    exact h4 _ x v hx hv
/-- out of a row of the call's own -/
theorem IsG.own {base : Nat} {e : TypeId} {vs : List (List Value)} (h : w.ownsRow base e k (.slice A n cap) n vs.flatten) (hk : 0 < k) (hl : xs.length = n) (h1 : vs.length = xs.length) (h2 : ∀ v ∈ vs, v.length = k)
    (h4 : ∀ (i : Nat) (x : α) (v : List Value), xs[i]? = some x → vs[i]? = some v → R w x v) : IsG R k w A n cap xs := ⟨hl, vs, h1, h2, Sl.own h hk, h4⟩

/-- a row of the call's own, of such elements -/
structure OwnG (R : World → α → List Value → Prop) (k : Nat) (w : World) (base : Nat) (e : TypeId) (v : Value) (n : Nat) (xs : List α) : Prop where
  len : xs.length = n
  rows : ∃ vs : List (List Value), vs.length = xs.length ∧ (∀ v ∈ vs, v.length = k) ∧ w.ownsRow base e k v n vs.flatten ∧ ∀ (i : Nat) (x : α) (v : List Value), xs[i]? = some x → vs[i]? = some v → R w x v
theorem OwnG.is {base : Nat} {e : TypeId} (h : OwnG R k w base e (.slice A n cap) n xs) (hk : 0 < k) : IsG R k w A n cap xs := by
  obtain ⟨vs, h1, h2, h3, h4⟩ := h.rows
  exact ⟨h.len, vs, h1, h2, Sl.own h3 hk, h4⟩
theorem OwnG.below {base : Nat} {e : TypeId} {v : Value} (hR : Keeps R) (h : OwnG R k w base e v n xs) (hb : Below w.heap.size w w') : OwnG R k w' base e v n xs := by
  obtain ⟨vs, h1, h2, h3, h4⟩ := h.rows
  exact ⟨h.len, vs, h1, h2, own_below h3 hb, fun i x v hx hv => hR _ _ _ _ (h4 i x v hx hv) hb⟩
theorem OwnG.nil (w : World) (base : Nat) (e : TypeId) : OwnG R k w base e (.slice none 0 0) 0 [] := ⟨rfl, [], rfl, by simp, World.ownsRow_nil w base e k, by simp⟩
/-- one more: what 'append' leaves -/
theorem OwnG.snoc {w2 : World} {base : Nat} {e : TypeId} {v' : Value} {x : α} {u : List Value} {vs : List (List Value)}
    (hown : w2.ownsRow base e k v' (n + 1) (vs.flatten ++ u)) (hl : xs.length = n) (h1 : vs.length = xs.length) (h2 : ∀ v ∈ vs, v.length = k) (hu : u.length = k)
    (h4 : ∀ (i : Nat) (x : α) (v : List Value), xs[i]? = some x → vs[i]? = some v → R w2 x v) (hx : R w2 x u) : OwnG R k w2 base e v' (n + 1) (xs ++ [x]) := by
  refine ⟨by simp [hl], vs ++ [u], by simp [h1], ?_, by simpa using hown, ?_⟩
  · intro v hv
    rcases List.mem_append.1 hv with hv | hv
    · exact h2 v hv
    · simp at hv; subst hv; exact hu
  · intro i y v hy hv
    rw [List.getElem?_append] at hy hv
    split at hy
    · rename_i hi
      rw [if_pos (by omega)] at hv
      exact h4 i y v hy hv
    · rename_i hi
      rw [if_neg (by omega)] at hv
      have e : i - xs.length = 0 := by
        have := (List.getElem?_eq_some_iff.1 hy).1
        simp at this
        omega
      have e' : i - vs.length = 0 := by omega
      rw [e] at hy
      rw [e'] at hv
      simp at hy hv
      subst hy hv
      exact hx
end
end Go.Proofs.Ytdeaeiolehglaaa

/- Maps with whole numbers as keys, as lists of pairs in the order in which keys came; any values. -/
namespace Go.Proofs.Ytdeaeiolehglaaa
open Go.RowKit Go.Maps

def look (l : List (Int × Value)) (k : Int) : Option Value := match l with
  | [] => none
  | p :: r => if p.1 = k then some p.2 else look r k
def putA (l : List (Int × Value)) (k : Int) (v : Value) : List (Int × Value) := match l with
  | [] => [(k, v)]
  | p :: r => if p.1 = k then (k, v) :: r else p :: putA r k v
theorem look_putA (l : List (Int × Value)) (k j : Int) (v : Value) : look (putA l k v) j = if k = j then some v else look l j := by
  induction l with
  | nil => rfl
  | cons p r ih =>
    simp only [putA]
    split
    · rename_i h
      simp only [look]
      by_cases hj : k = j
      · rw [if_pos hj, if_pos hj]
      · rw [if_neg hj, if_neg hj, if_neg (by rw [h]; exact hj)]
    · rename_i h
      simp only [look]
      by_cases hp : p.1 = j
      · rw [if_pos hp, if_pos hp, if_neg (by rintro rfl; exact h hp)]
      · rw [if_neg hp, if_neg hp, ih]
theorem length_putA (l : List (Int × Value)) (k : Int) (v : Value) : (putA l k v).length = if (look l k).isSome then l.length else l.length + 1 := by
  induction l with
  | nil => rfl
  | cons p r ih =>
    simp only [putA, look]
    split
    · rfl
    · rw [List.length_cons, ih]; split <;> simp
theorem putA_new {l : List (Int × Value)} {k : Int} {v : Value} (h : look l k = none) : putA l k v = l ++ [(k, v)] := by
  induction l with
  | nil => rfl
  | cons p r ih =>
    simp only [look] at h
    split at h
    · cases h
    · rename_i hp
      simp only [putA, if_neg hp, ih h, List.cons_append]

def rawR : Value → Option (DataW Value × List MemPlace) := fun v => some (.held v, [])
/-- block b is a map that holds these pairs -/
structure MapI (P : Program) (K : TypeId) (w : World) (b : Nat) (l : List (Int × Value)) : Prop where
  has : ∃ D : DataW Value, w.ownsMap P K rawR b l.length D ∧ Maps.size D = l.length ∧ (∀ k, i64 k → Maps.has D (.int .i64 k) = (look l k).isSome) ∧ ∀ k z, i64 k → D.atKey (.int .i64 k) (.held z) = .held ((look l k).getD z)
section
variable {P : Program} {K : TypeId} {w w' : World} {b : Nat} {l : List (Int × Value)}
theorem MapI.made (w : World) (P : Program) (K : TypeId) : MapI P K (w.alloc (.map #[] 0)) w.heap.size [] :=
  ⟨.map [], World.ownsMap_made w P K rawR, rfl, fun _ _ => rfl, fun _ _ _ => rfl⟩
theorem MapI.lt (h : MapI P K w b l) : b < w.heap.size := by
  obtain ⟨D, h1, _⟩ := h.has
  exact h1.lt
theorem MapI.block (h : MapI P K w b l) (hb : w'.heap[b]? = w.heap[b]?) : MapI P K w' b l := by
  obtain ⟨D, ⟨es, clock, h1, h2⟩, h3⟩ := h.has
  exact ⟨D, ⟨es, clock, hb.trans h1, h2⟩, h3⟩
theorem MapI.below (h : MapI P K w b l) (hb : Below w.heap.size w w') : MapI P K w' b l := h.block (hb.block b h.lt)
theorem MapI.isMap (h : MapI P K w b l) : ∃ es clock, w.heap[b]? = some (.map es clock) := by
  obtain ⟨D, ⟨es, clock, h1, h2⟩, h3⟩ := h.has
  exact ⟨es, clock, h1⟩
theorem i64_wf {k : Int} (h : i64 k) : (Lit.int .i64 k).wf = true := by
  unfold i64 at h
  simp [Lit.wf, IntKind.min, IntKind.max, IntKind.signed, IntKind.bits]
  omega
theorem own_size {R : Value → Option (DataW Value × List MemPlace)} {n : Nat} {D : DataW Value} (h : w.ownsMap P K R b n D) : w.ownsMap P K R b (Maps.size D) D := by
  obtain ⟨es, clock, h1, F, h2, rfl⟩ := h
  exact ⟨es, clock, h1, F, by simp [Maps.size, length_sorted], rfl⟩

variable {ops : Array Oper} {rest : List Oper} {o : Oper} {a : Act} {Q : Exit → Act → World → Prop}
/-- 'v, ok := m[k]' -/
theorem wpList_map_ok (hg : o.guard = none) (m x : Operand) (t : TypeId) (hop : o.op = Op.lookup t m x true) (e : TypeId) (hk : P.underlying K = some (.int .i64)) (ht : P.underlying t = some (.map K e))
    {z : Value} (hz : (zeroValue e).run P w = .ok z w) (hm : a.eval m = .map (some b)) (h : MapI P K w b l) {k : Int} (hx : a.eval x = .int .i64 k) (hw : i64 k)
    (hK : wpList P ops Q rest (a.put o.dst (.tuple #[(look l k).getD z, .bool (look l k).isSome])) w) : wpList P ops Q (o :: rest) a w := by
  obtain ⟨D, h1, h2, h3, h4⟩ := h.has
  refine wpList_lookup_own_ok w hg m x t hop K e (int_keyed hk) ht rawR hz (.held z) [] rfl b _ D hm h1 _ _ hx (keyOf_int_mk hk (i64_wf hw)) fun v ps hv => ?_
  simp only [rawR, Option.some.injEq, Prod.mk.injEq] at hv
  have hv1 := hv.1
  rw [h4 k z hw] at hv1
  injection hv1 with hv1
  rw [hv1, h3 k hw]
  exact hK
/-- 'm[k]' -/
theorem wpList_map_get (hg : o.guard = none) (m x : Operand) (t : TypeId) (hop : o.op = Op.lookup t m x false) (e : TypeId) (hk : P.underlying K = some (.int .i64)) (ht : P.underlying t = some (.map K e))
    {z : Value} (hz : (zeroValue e).run P w = .ok z w) (hm : a.eval m = .map (some b)) (h : MapI P K w b l) {k : Int} (hx : a.eval x = .int .i64 k) (hw : i64 k)
    (hK : wpList P ops Q rest (a.put o.dst ((look l k).getD z)) w) : wpList P ops Q (o :: rest) a w := by
  refine wpList_plain hg fun K' hK' => ?_
  obtain ⟨D, h1, h2, h3, h4⟩ := h.has
  obtain ⟨v, ps, hrun, hv⟩ := h1.lookup (int_keyed hk) ht hz (zd := .held z) (zp := []) rfl (keyOf_int_mk hk (i64_wf hw))
  simp only [rawR, Option.some.injEq, Prod.mk.injEq] at hv
  have hv1 := hv.1
  rw [h4 k z hw] at hv1
  injection hv1 with hv1
  subst hv1
  unfold Oper.wp
  simp [execOp, hop, hm, hx, hrun, Result.andThen]
  exact hK' _ _ hK
theorem run_map_put {t : TypeId} (e : TypeId) (hk : P.underlying K = some (.int .i64)) (ht : P.underlying t = some (.map K e))
    (h : MapI P K w b l) (hn : l.length < 1000000000) {k : Int} (v : Value) (hw : i64 k) : ∃ w', (Instr.mapUpdate t (.map (some b)) (.int .i64 k) v).run P w = .ok () w' ∧ MapI P K w' b (putA l k v) ∧ w.grownBy w' (some b) := by
  obtain ⟨D, h1, h2, h3, h4⟩ := h.has
  obtain ⟨w', hrun, hown, hgr⟩ := h1.update (int_keyed hk) ht (by unfold maxLen; omega) (keyOf_int_mk hk (i64_wf hw)) (d := .held v) (ps := []) (val := v) rfl
  refine ⟨w', hrun, ⟨⟨D.put (.int .i64 k) (.held v), ?_, ?_, ?_, ?_⟩⟩, hgr⟩
  · have := own_size hown
    rwa [size_put (h1.tidy (int_keyed hk)), h3 k hw, h2, ← length_putA l k v] at this
  · rw [size_put (h1.tidy (int_keyed hk)), h3 k hw, h2, ← length_putA l k v]
  · intro j hj
    rw [look_putA]
    by_cases hjk : k = j
    · subst hjk
      rw [has_put_same (k := .int .i64 k) h1.isMap trivial, if_pos rfl]; rfl
    · rw [has_put_other (by intro he; injection he with _ he; exact hjk he.symm), if_neg hjk, h3 j hj]
  · intro j z hj
    rw [look_putA]
    by_cases hjk : k = j
    · subst hjk
      rw [atKey_put_same (k := .int .i64 k) h1.isMap trivial, if_pos rfl]; rfl
    · rw [atKey_put_other (by intro he; injection he with _ he; exact hjk he.symm), if_neg hjk, h4 j z hj]
/-- 'm[k] = v' -/
theorem wpList_map_put (hg : o.guard = none) (m x y : Operand) (t : TypeId) (hop : o.op = Op.mapUpdate t m x y) (e : TypeId) (hk : P.underlying K = some (.int .i64)) (ht : P.underlying t = some (.map K e))
    (hm : a.eval m = .map (some b)) (h : MapI P K w b l) (hn : l.length < 1000000000) {k : Int} {v : Value} (hx : a.eval x = .int .i64 k) (hy : a.eval y = v) (hw : i64 k)
    (hK : ∀ w', MapI P K w' b (putA l k v) → w.grownBy w' (some b) → wpList P ops Q rest (a.put o.dst undef) w') : wpList P ops Q (o :: rest) a w := by
  refine wpList_plain hg fun K' hK' => ?_
  obtain ⟨w', hrun, r1, r2⟩ := run_map_put e hk ht h hn v hw
  unfold Oper.wp
  simp [execOp, hop, hm, hx, hy, hrun, Result.andThen]
  exact hK' _ _ (hK w' r1 r2)
/-- 'len(m)' -/
theorem wpList_map_len (hg : o.guard = none) (m : Operand) (t : TypeId) (hop : o.op = Op.call { callee := Callee.builtin Builtin.len, args := #[m], argTypes := #[t] }) (e : TypeId) (ht : P.underlying t = some (.map K e))
    (hm : a.eval m = .map (some b)) (h : MapI P K w b l) (hK : wpList P ops Q rest (a.put o.dst (.int .i64 l.length)) w) : wpList P ops Q (o :: rest) a w := by
  obtain ⟨D, h1, h2, h3, h4⟩ := h.has
  refine wpList_len_own w hg m t hop K e ht rawR b _ D hm h1 ?_
  rw [h2]
  exact hK
end
end Go.Proofs.Ytdeaeiolehglaaa

/- The walks that hold rows against each other, and look for a number in a row. -/
namespace Go.Proofs.Ytdeaeiolehglaaa
open Go.RowKit

theorem eqC (a b : C) (w : World) : (binOp .eql 45 (.agg #[.int .i64 a.kind, .string a.name, .int .i64 a.n]) (.agg #[.int .i64 b.kind, .string b.name, .int .i64 b.n])).run Try.prog w = .ok (.bool (a.beq b)) w := by
  go_simp
  by_cases h1 : a.kind = b.kind <;> by_cases h2 : a.name.toList = b.name.toList <;> by_cases h3 : a.n = b.n <;> simp [C.beq, h1, h2, h3]
theorem neqC (a b : C) (w : World) : (binOp .neq 45 (.agg #[.int .i64 a.kind, .string a.name, .int .i64 a.n]) (.agg #[.int .i64 b.kind, .string b.name, .int .i64 b.n])).run Try.prog w = .ok (.bool (!a.beq b)) w := by
  go_simp
  by_cases h1 : a.kind = b.kind <;> by_cases h2 : a.name.toList = b.name.toList <;> by_cases h3 : a.n = b.n <;> simp [C.beq, h1, h2, h3]


set_option maxHeartbeats 400000 in
theorem rSame_any (A B : Option Addr) (n m cap cap' : Nat) (xs ys : List C) (w : World) (hx : IsC w A n cap xs) (hy : IsC w B m cap' ys) (hn : n ≤ 100000) (hm : m ≤ 100000) :
    Calls Try.prog 43 #[.slice A n cap, .slice B m cap'] w (RetD w (.bool (sameC xs ys))) := by
  by_cases hnm : n = m
  · subst hnm
    go_enter Try.func43, Try.ntmps43
    go_wp2
    go_loopw [5] (fun i wr => ∃ k : Nat, k ≤ n ∧ i = .int .i64 k ∧ Hid (sameC (xs.drop k) (ys.drop k) = sameC xs ys) ∧ ∃ d, wr = w.drewN d) (fun i _ => n - (intOf i).toNat)
    case atStart => exact ⟨0, Nat.zero_le _, rfl, rfl, 0, rfl⟩
    case round =>
      obtain ⟨k, hk, rfl, hres, d, rfl⟩ := hrel
      by_cases hlt : k < n
      · obtain ⟨x, hxk⟩ := hx.get hlt
        obtain ⟨y, hyk⟩ := hy.get hlt
        obtain ⟨b, off, rfl, hbb, hwf, h0, h1, h2⟩ := hx.at_ hxk
        obtain ⟨b', off', rfl, hbb', hwf', h0', h1', h2'⟩ := hy.at_ hyk
        have hd := drop_get hxk
        have hd' := drop_get hyk
        have Hd := Lib.hid hd
        have Hd' := Lib.hid hd'
        clear hxk hyk hd hd'
        have hp : (k : Int) < (n : Int) := by omega
        have hq := neqC x y
        go_wp2
        go_quiet (fail)
        go_wp2
        · rename_i h
          go_ret
          exact ⟨ret_bool (by have := hres.out; rw [Hd.out, Hd'.out, sameC] at this; rw [← this]; simp at h; simp [h]), _, World.drewN_drewN _ _ _⟩
        · rename_i h
          go_roundw
          case rel => exact ⟨k + 1, by omega, by go_num, by have := hres.out; rw [Hd.out, Hd'.out, sameC] at this; simp at h; exact Lib.hid (by simpa [h] using this), _, rfl⟩
          case measure => simp [intOf]; omega
      · go_wp2
        go_ret
        exact ⟨ret_bool (by have := hres.out; rw [drop_end hx.len hlt, drop_end hy.len hlt] at this; simpa [sameC] using this), d, rfl⟩
  · have hne : ((n : Int) == (m : Int)) = false := by simp; omega
    go_enter Try.func43, Try.ntmps43
    go_wp2
    go_ret
    exact ⟨ret_bool (sameC_len (by rw [hx.len, hy.len]; exact hnm)).symm, 0, rfl⟩



theorem inI_idx (ns : List Int) (x : Int) : inI ns x = decide (0 ≤ idxF (fun y => y == x) 0 ns) := by rw [idxF_any]; rfl

set_option maxHeartbeats 400000 in
theorem In_any (A : Option Addr) (n cap : Nat) (ns : List Int) (x : Int) (w : World) (h : IsI w A n cap ns) (hn : n ≤ 100000) :
    Calls Try.prog 46 #[.slice A n cap, .int .i64 x] w fun e w' => e = .returned (.bool (inI ns x)) ∧ w = w' := by
  go_enter Try.func46, Try.ntmps46
  go_wp2
  go_loop [5] (fun i => ∃ k : Nat, k ≤ n ∧ i = .int .i64 k ∧ Hid (idxF (fun y => y == x) k (ns.drop k) = idxF (fun y => y == x) 0 ns)) (fun i => n - (intOf i).toNat)
  case atStart => exact ⟨0, Nat.zero_le _, rfl, rfl⟩
  case round =>
    obtain ⟨k, hk, rfl, hres⟩ := hrel
    by_cases hlt : k < n
    · obtain ⟨y, hy⟩ := h.get hlt
      obtain ⟨b, off, rfl, hb, hwf, hc⟩ := h.at_ hy
      have hd := drop_get hy
      have Hd := Lib.hid hd
      clear hy hd
      cases ho : (y == x)
      all_goals
        have ho' : (x == y) = (y == x) := by rw [Bool.eq_iff_iff]; simp; exact ⟨Eq.symm, Eq.symm⟩
        rw [ho] at ho'
        have Ho := Lib.hid ho
        go_wp2
      · go_round
        case rel => exact ⟨k + 1, by omega, by go_num, by have := hres.out; rw [Hd.out, idxF, if_neg (by simp [Ho.out])] at this; exact this⟩
        case measure => simp [intOf]; omega
      · go_ret
        exact ⟨by have := hres.out; rw [Hd.out, idxF, if_pos (by simp [Ho.out])] at this; exact ret_bool (by rw [inI_idx, ← this]; simp), rfl⟩
    · go_wp2
      go_ret
      exact ⟨by have := hres.out; rw [drop_end h.len hlt] at this; exact ret_bool (by rw [inI_idx, ← this]; simp [idxF]), rfl⟩

set_option maxHeartbeats 400000 in
theorem Place_any (A : Option Addr) (n cap : Nat) (ns : List Int) (x : Int) (w : World) (h : IsI w A n cap ns) (hn : n ≤ 100000) :
    Calls Try.prog 60 #[.slice A n cap, .int .i64 x] w fun e w' => e = .returned (.int .i64 (placeI ns x)) ∧ w = w' := by
  go_enter Try.func60, Try.ntmps60
  go_wp2
  go_loop [5] (fun i => ∃ k : Nat, k ≤ n ∧ i = .int .i64 k ∧ Hid (idxF (fun y => y == x) k (ns.drop k) = idxF (fun y => y == x) 0 ns)) (fun i => n - (intOf i).toNat)
  case atStart => exact ⟨0, Nat.zero_le _, rfl, rfl⟩
  case round =>
    obtain ⟨k, hk, rfl, hres⟩ := hrel
    by_cases hlt : k < n
    · obtain ⟨y, hy⟩ := h.get hlt
      obtain ⟨b, off, rfl, hb, hwf, hc⟩ := h.at_ hy
      have hd := drop_get hy
      have Hd := Lib.hid hd
      clear hy hd
      cases ho : (y == x)
      all_goals
        have ho' : (x == y) = (y == x) := by rw [Bool.eq_iff_iff]; simp; exact ⟨Eq.symm, Eq.symm⟩
        rw [ho] at ho'
        have Ho := Lib.hid ho
        go_wp2
      · go_round
        case rel => exact ⟨k + 1, by omega, by go_num, by have := hres.out; rw [Hd.out, idxF, if_neg (by simp [Ho.out])] at this; exact this⟩
        case measure => simp [intOf]; omega
      · go_ret
        exact ⟨by have := hres.out; rw [Hd.out, idxF, if_pos (by simp [Ho.out])] at this; exact ret_int this, rfl⟩
    · go_wp2
      go_ret
      exact ⟨by have := hres.out; rw [drop_end h.len hlt] at this; exact ret_int (by rw [placeI, ← this]; rfl), rfl⟩




end Go.Proofs.Ytdeaeiolehglaaa

/- Plain laws on passing over terms. No program in sight. -/
namespace Go.Proofs.Ytdeaeiolehglaaa
open Go.RowKit

theorem skip_zero (cs : List C) : skip cs 0 = some cs := by cases cs <;> rfl
theorem skip_cons (c : C) (cs : List C) (k : Nat) : skip (c :: cs) (k + 1) = if c.ok then skip cs (k + c.ar) else none := rfl
theorem skip_nil (k : Nat) (h : 0 < k) : skip [] k = none := by cases k <;> first | rfl | omega
theorem skip_add (cs : List C) : ∀ a b : Nat, skip cs (a + b) = (skip cs a).bind fun r => skip r b := by
  induction cs with
  | nil =>
    intro a b
    cases a with
    | zero => simp [skip_zero]
    | succ a => rw [skip_nil _ (by omega), skip_nil (a + 1) (by omega)]; rfl
  | cons c cs ih =>
    intro a b
    cases a with
    | zero => simp [skip_zero]
    | succ a =>
      rw [show a + 1 + b = (a + b) + 1 by omega, skip_cons, skip_cons]
      split
      · rw [show a + b + c.ar = (a + c.ar) + b by omega, ih]
      · rfl
theorem skip_suffix (cs : List C) : ∀ (k : Nat) (r : List C), skip cs k = some r → ∃ d, r = cs.drop d ∧ k ≤ d ∧ d ≤ cs.length := by
  induction cs with
  | nil =>
    intro k r h
    cases k with
    | zero => simp [skip_zero] at h; exact ⟨0, by simp [h], by omega, by simp⟩
    | succ k => rw [skip_nil _ (by omega)] at h; cases h
  | cons c cs ih =>
    intro k r h
    cases k with
    | zero => rw [skip_zero] at h; injection h with h; exact ⟨0, by simp [h], by omega, by simp⟩
    | succ k =>
      rw [skip_cons] at h
      split at h
      · obtain ⟨d, h1, h2, h3⟩ := ih _ _ h
        exact ⟨d + 1, by simpa using h1, by omega, by simpa using h3⟩
      · cases h

theorem endN_some {t : List C} {at_ e : Nat} : endN t at_ = some e ↔ skip (t.drop at_) 1 = some (t.drop e) ∧ at_ < e ∧ e ≤ t.length := by
  unfold endN
  constructor
  · intro h
    cases hs : skip (t.drop at_) 1 with
    | none => rw [hs] at h; cases h
    | some r =>
      rw [hs] at h
      obtain ⟨d, rfl, h1, h2⟩ := skip_suffix _ _ _ hs
      simp at h h2
      rw [List.drop_drop]
      refine ⟨by congr 2; omega, by omega, by omega⟩
  · rintro ⟨h, h1, h2⟩
    rw [h]
    simp; omega
theorem endN_none {t : List C} {at_ : Nat} : endN t at_ = none ↔ skip (t.drop at_) 1 = none := by
  unfold endN
  cases skip (t.drop at_) 1 <;> simp
theorem skip_drop_inj {t : List C} {a b : Nat} (ha : a ≤ t.length) (hb : b ≤ t.length) (h : t.drop a = t.drop b) : a = b := by
  have := congrArg List.length h
  simp at this
  omega
theorem endN_out {t : List C} {at_ : Nat} (h : t.length ≤ at_) : endN t at_ = none := by
  rw [endN_none, List.drop_of_length_le h]
  exact skip_nil 1 (by omega)
theorem endN_bad {t : List C} {at_ : Nat} {c : C} (hc : t[at_]? = some c) (h : c.ok = false) : endN t at_ = none := by
  rw [endN_none, drop_get hc, skip_cons, h]; rfl
/-- at a good cell: the arguments are passed over -/
theorem endN_good {t : List C} {at_ e : Nat} {c : C} (hc : t[at_]? = some c) (h : c.ok = true) (he : at_ < e) (hl : e ≤ t.length) (hs : skip (t.drop (at_ + 1)) c.ar = some (t.drop e)) : endN t at_ = some e := by
  rw [endN_some, drop_get hc, skip_cons, if_pos h, Nat.zero_add]
  exact ⟨hs, he, hl⟩
theorem endN_args {t : List C} {at_ : Nat} {c : C} (hc : t[at_]? = some c) (h : c.ok = true) (hs : skip (t.drop (at_ + 1)) c.ar = none) : endN t at_ = none := by
  rw [endN_none, drop_get hc, skip_cons, if_pos h, Nat.zero_add]
  exact hs
theorem ok_fun {c : C} (h : c.ok = true) (hk : c.kind = 3) : 0 ≤ c.n ∧ c.n ≤ 6 := by
  unfold C.ok at h
  simp [hk] at h
  omega
theorem ar_fun {c : C} (h : c.ok = true) (hk : c.kind = 3) : (c.ar : Int) = c.n := by
  have := ok_fun h hk
  simp [C.ar, hk]; omega
theorem ar_other {c : C} (hk : c.kind ≠ 3) : c.ar = 0 := by simp [C.ar, hk]
theorem endT_some {t : List C} {at_ e : Nat} (h : endN t at_ = some e) : endT t at_ = e := by simp [endT, h]
theorem endT_none {t : List C} {at_ : Nat} (h : endN t at_ = none) : endT t at_ = 0 := by simp [endT, h]
theorem endR_some {t : List C} {at_ e : Nat} (h : endN t at_ = some e) : endR t at_ = e := by simp [endR, h]
theorem endR_none {t : List C} {at_ : Nat} (h : endN t at_ = none) : endR t at_ = -1 := by simp [endR, h]
theorem right_R (t : List C) (n : Nat) (hl : t.length = n) (h1 : 1 ≤ n) (h2 : n ≤ 200) : (endR t 0 == (n : Int)) = rightB t := by
  subst hl
  unfold rightB endR
  cases h : endN t 0 with
  | none => simp [h1, h2] <;> omega
  | some e => rw [Bool.eq_iff_iff]; simp [h1, h2]; omega
theorem right_T (t : List C) (n : Nat) (hl : t.length = n) (h1 : 1 ≤ n) (h2 : n ≤ 200) : (endT t 0 == (n : Int)) = rightB t := by
  subst hl
  unfold rightB endT
  cases h : endN t 0 with
  | none => simp [h1, h2] <;> omega
  | some e => rw [Bool.eq_iff_iff]; simp [h1, h2]; omega
theorem right_no (t : List C) (n : Nat) (hl : t.length = n) (h : n < 1 ∨ 200 < n) : rightB t = false := by
  subst hl
  unfold rightB
  rcases h with h | h
  · simp; omega
  · simp; omega
end Go.Proofs.Ytdeaeiolehglaaa

/- A row that another one is no part of, kept over an append. No program in sight. -/
namespace Go.Proofs.Ytdeaeiolehglaaa
open Go.RowKit

/-- what an append to a row of the call's own leaves as it was -/
structure Apart (w w' : World) (As A' : Option Addr) : Prop where
  size : w.heap.size ≤ w'.heap.size
  old : ∀ g, g < w.heap.size → (∀ a, As = some a → a.block ≠ g) → w'.heap[g]? = w.heap[g]?
  blk : ∀ a', A' = some a' → a'.block < w'.heap.size ∧ ((∃ a, As = some a ∧ a'.block = a.block) ∨ w.heap.size ≤ a'.block)
theorem Sl.apart {w w' : World} {As A' A : Option Addr} {size n c : Nat} {xs : List Value} (h : Sl w size A n c xs) (hp : Apart w w' As A') (hs : ∀ a a', As = some a → A = some a' → a.block ≠ a'.block) : Sl w' size A n c xs := by
  refine ⟨h.len, h.hcap, h.hmax, fun hn => ?_⟩
  obtain ⟨b, off, rfl, hb, hc⟩ := h.cells hn
  refine ⟨b, off, rfl, Nat.lt_of_lt_of_le hb hp.size, fun j u hu => ?_⟩
  rw [← hc j u hu]
  exact World.cell?_of_block (hp.old b hb fun a ha => hs a _ ha rfl)
theorem IsI.apart {w w' : World} {As A' A : Option Addr} {n c : Nat} {xs : List Int} (h : IsI w A n c xs) (hp : Apart w w' As A') (hs : ∀ a a', As = some a → A = some a' → a.block ≠ a'.block) : IsI w' A n c xs := ⟨h.sl.apart hp hs, h.wf⟩
theorem IsC.apart {w w' : World} {As A' A : Option Addr} {n c : Nat} {xs : List C} (h : IsC w A n c xs) (hp : Apart w w' As A') (hs : ∀ a a', As = some a → A = some a' → a.block ≠ a'.block) : IsC w' A n c xs := ⟨h.sl.apart hp hs, h.wf⟩
theorem Own0.lt {w : World} {base size n m cap : Nat} {e : TypeId} {A : Option Addr} {xs : List Value} (h : w.ownsRow base e size (.slice A m cap) n xs) : ∀ a, A = some a → base ≤ a.block ∧ a.block < w.heap.size := fun a ha => by
  subst ha
  exact h.lt _ rfl

section
variable {P : Program} {ops : Array Oper} {rest : List Oper} {o : Oper} {a : Act} {w : World} {Q : Exit → Act → World → Prop}
theorem wpList_append_own1 (hw : Region.wanted o (yielded ops a.tmps) = true) (s x : Operand) (t : TypeId) (ho : o.op = .call { callee := .builtin .append, args := #[s, x], argTypes := #[t, t] })
    (base : Nat) (e : TypeId) {z : Value} {size bytes : Nat} (ht : P.underlying t = some (.slice e)) (hinfo : (P.info? e).map (fun i => (i.zero, i.size, i.bytes)) = some (some z, size, bytes))
    (hzs : z.cells.size = size) (hsz : 0 < size) {As : Option Addr} {n cs : Nat} {xs : List Value} (hs : a.eval s = .slice As n cs) (hown : Own0 w base e size (.slice As n cs) n xs)
    {A : Option Addr} {m c : Nat} {news : List Value} (hx : a.eval x = .slice A m c) (hr : Sl w size A m c news) (h1 : ∀ u ∈ news, u.oneCell' = true) (hm : 0 < m)
    (h63 : n + m ≤ 1000000000000) (hbyt : bytes ≤ 64) (hbase : base ≤ w.heap.size)
    (k : ∀ A' cap' w', w'.ownsRow base e size (.slice A' (n + m) cap') (n + m) (xs ++ news) → Below base w w' → Apart w w' As A' → wpList P ops Q rest (a.put o.dst (.slice A' (n + m) cap')) w') :
    wpList P ops Q (o :: rest) a w := by
  have sl : ∀ {As : Option Addr} {n cs : Nat} {xs : List Value}, a.eval s = .slice As n cs → w.ownsRow base e size (.slice As n cs) n xs → n + m ≤ 1000000000000 → (∀ A' cap' w', w'.ownsRow base e size (.slice A' (n + m) cap') (n + m) (xs ++ news) → Below base w w' → Apart w w' As A' → wpList P ops Q rest (a.put o.dst (.slice A' (n + m) cap')) w') → wpList P ops Q (o :: rest) a w := by
    intro As n cs xs hs hown h63 k
    refine wpList_append_sl hw s x t ho base e ht hinfo hzs hsz hs hown hx hr h1 h63 hbyt hbase fun A' cap' w' h2 h3 h4 h5 => k A' cap' w' h2 h3 ⟨h4.size, fun g hg hne => h4.block g hg ?_, fun a' ha' => ⟨(Own0.lt h2 a' ha').2, ?_⟩⟩
    · cases As with
      | none => simp [Value.ownBlock]
      | some b => have := hne b rfl; simp [Value.ownBlock]; omega
    · subst ha'
      cases As with
      | none =>
        rcases h5 with h5 | h5
        · simp [Value.ownBlock] at h5
        · right; simp [Value.ownBlock] at h5; omega
      | some b =>
        rcases h5 with h5 | h5
        · left; simp [Value.ownBlock] at h5; exact ⟨b, rfl, h5⟩
        · right; simp [Value.ownBlock] at h5; omega
  rcases hown with ⟨As', he, rfl, rfl⟩ | hown
  · injection he with he1 he2 he3
    subst he1; subst he3
    cases As with
    | none => exact sl hs (World.ownsRow_nil w base e size) h63 k
    | some b =>
      obtain ⟨i, hi, hz, hsize, hby⟩ := info_parts hinfo
      obtain ⟨b', off, rfl, hlt, hc⟩ := hr.cells hm
      obtain ⟨v', w', hrun, h2, h3⟩ := run_append_arg_grows (P := P) w t o.type e i z size bytes ht hi hz hsize hby hzs hsz b 0 0 [] (by simp) (by simp) ⟨b', off, none⟩ m c news hr.len
        (fun j u hu => by rw [Addr.add_lit]; exact hc j u hu) (by omega) (by simp only [maxLen]; omega) (by have : (0 + m) * bytes ≤ 1000000000000 * 64 := Nat.mul_le_mul h63 hbyt; omega)
      refine wpList_run (Φ := fun v' w' => w'.ownsRow w.heap.size e size v' (0 + m) ([] ++ news) ∧ w.grownBy w' none) hw ⟨v', w', ?_, h2, h3⟩ ?_
      · simp only [execOp, ho, resolve, invoke, builtin, Sem.run_bind, Sem.run_pure, Result.andThen_ok, List.map_toArray, List.map_cons, List.map_nil, hs, hx, hrun]
      · rintro v2 w2 ⟨g1, g2⟩
        obtain ⟨A', cap', rfl, _⟩ := Sl.of_own g1 hsz
        exact k A' cap' w2 (own_lower g1 hbase) ((Below.refl base w).grown g2 hbase (fun q hq => by cases hq)) ⟨g2.size, fun g hg _ => g2.block g hg (by simp), fun a' ha' => ⟨(Own0.lt g1 a' ha').2, .inr (Own0.lt g1 a' ha').1⟩⟩
  · exact sl hs hown h63 k
end
end Go.Proofs.Ytdeaeiolehglaaa

/- Plain laws on a term and its parts. No program in sight. -/
namespace Go.Proofs.Ytdeaeiolehglaaa
open Go.RowKit

theorem skip_prefix (cs : List C) : ∀ (k : Nat) (r : List C), skip cs k = some r → ∃ p, cs = p ++ r ∧ skip p k = some [] := by
  induction cs with
  | nil =>
    intro k r h
    cases k with
    | zero => simp [skip_zero] at h; exact ⟨[], by simp [h], rfl⟩
    | succ k => rw [skip_nil _ (by omega)] at h; cases h
  | cons c cs ih =>
    intro k r h
    cases k with
    | zero => rw [skip_zero] at h; injection h with h; exact ⟨[], by simp [h], rfl⟩
    | succ k =>
      rw [skip_cons] at h
      split at h
      · rename_i ho
        obtain ⟨p, h1, h2⟩ := ih _ _ h
        exact ⟨c :: p, by simp [h1], by rw [skip_cons, if_pos ho]; exact h2⟩
      · cases h
theorem skip_append (p r : List C) : ∀ k : Nat, skip p k = some [] → skip (p ++ r) k = some r := by
  induction p with
  | nil =>
    intro k h
    cases k with
    | zero => exact skip_zero r
    | succ k => rw [skip_nil _ (by omega)] at h; cases h
  | cons c p ih =>
    intro k h
    cases k with
    | zero => rw [skip_zero] at h; cases h
    | succ k =>
      rw [skip_cons] at h
      split at h
      · rename_i ho
        rw [List.cons_append, skip_cons, if_pos ho]
        exact ih _ h
      · cases h
theorem skip_pos {t : List C} (h : skip t 1 = some []) : 1 ≤ t.length := by
  cases t with
  | nil => rw [skip_nil _ (by omega)] at h; cases h
  | cons c t => simp
theorem endN_zero {t : List C} : endN t 0 = some t.length ↔ skip t 1 = some [] := by
  rw [endN_some]
  simp
  intro h
  have := skip_pos h
  omega
theorem right_iff (t : List C) : rightB t = true ↔ skip t 1 = some [] ∧ t.length ≤ 200 := by
  simp only [rightB, Bool.and_eq_true, decide_eq_true_eq, beq_iff_eq, endN_zero]
  constructor
  · rintro ⟨⟨_, h⟩, h'⟩; exact ⟨h', h⟩
  · rintro ⟨h', h⟩; exact ⟨⟨skip_pos h', h⟩, h'⟩

/-- 'l' are the parts, one behind the other, of what 'k' terms take up -/
inductive Splits : List C → Nat → List (List C) → Prop
  | nil : Splits [] 0 []
  | cons {p r : List C} {k : Nat} {l : List (List C)} : skip p 1 = some [] → Splits r k l → Splits (p ++ r) (k + 1) (p :: l)
theorem Splits.flat {cs : List C} {k : Nat} {l : List (List C)} (h : Splits cs k l) : l.flatten = cs ∧ l.length = k ∧ (∀ p ∈ l, skip p 1 = some []) ∧ skip cs k = some [] := by
  induction h with
  | nil => exact ⟨rfl, rfl, by simp, rfl⟩
  | cons hp _ ih =>
    obtain ⟨h1, h2, h3, h4⟩ := ih
    refine ⟨by simp [h1], by simp [h2], ?_, ?_⟩
    · intro q hq
      rcases List.mem_cons.1 hq with rfl | hq
      · exact hp
      · exact h3 q hq
    · rw [Nat.add_comm, skip_add, skip_append _ _ _ hp]
      exact h4
theorem splits_of {l : List (List C)} (h : ∀ p ∈ l, skip p 1 = some []) : Splits l.flatten l.length l := by
  induction l with
  | nil => exact .nil
  | cons p l ih => exact .cons (h p (by simp)) (ih fun q hq => h q (by simp [hq]))
theorem partsA_splits (t : List C) : ∀ (k at_ : Nat), at_ ≤ t.length → skip (t.drop at_) k = some [] → Splits (t.drop at_) k (partsA t k at_) := by
  intro k
  induction k with
  | zero =>
    intro at_ hl h
    rw [skip_zero] at h
    injection h with h
    rw [h]
    exact .nil
  | succ k ih =>
    intro at_ hl h
    rw [show k + 1 = 1 + k by omega, skip_add] at h
    cases hs : skip (t.drop at_) 1 with
    | none => rw [hs] at h; cases h
    | some r =>
      rw [hs] at h
      obtain ⟨d, rfl, hd1, hd2⟩ := skip_suffix _ _ _ hs
      rw [List.drop_drop] at hs h
      have hd3 : at_ + d ≤ t.length := by simp at hd2; omega
      have he : endN t at_ = some (at_ + d) := endN_some.2 ⟨hs, by omega, hd3⟩
      obtain ⟨p, hp1, hp2⟩ := skip_prefix _ _ _ hs
      have hpl : p.length = d := by
        have := congrArg List.length hp1
        simp at this
        omega
      have htake : (t.drop at_).take (at_ + d - at_) = p := by
        rw [hp1, show at_ + d - at_ = p.length by omega]
        exact List.take_left
      have hpa : partsA t (k + 1) at_ = p :: partsA t k (at_ + d) := by simp only [partsA, he, htake]
      rw [hpa, hp1]
      exact .cons hp2 (ih (at_ + d) hd3 h)

theorem right_head {c : C} {cs : List C} (h : rightB (c :: cs) = true) : c.ok = true ∧ skip cs c.ar = some [] := by
  obtain ⟨h, _⟩ := (right_iff _).1 h
  rw [skip_cons] at h
  split at h
  · rename_i ho
    exact ⟨ho, by simpa using h⟩
  · cases h
theorem parts_splits {c : C} {cs : List C} (h : rightB (c :: cs) = true) (hk : c.kind = 3) : Splits cs c.ar (partsF (c :: cs)) := by
  obtain ⟨_, hs⟩ := right_head h
  have := partsA_splits (c :: cs) c.ar 1 (by simp) (by simpa using hs)
  simpa [partsF, hk, C.ar] using this
theorem parts_other {c : C} {cs : List C} (hk : c.kind ≠ 3) : partsF (c :: cs) = [] := by simp [partsF, hk]
theorem alone {c : C} {cs : List C} (h : rightB (c :: cs) = true) (hk : c.kind ≠ 3) : cs = [] := by
  obtain ⟨_, hs⟩ := right_head h
  rw [ar_other hk, skip_zero] at hs
  injection hs
theorem mem_length {l : List (List C)} {p : List C} (h : p ∈ l) : p.length ≤ l.flatten.length := by
  induction l with
  | nil => cases h
  | cons q l ih =>
    simp only [List.flatten_cons, List.length_append]
    rcases List.mem_cons.1 h with rfl | h
    · omega
    · have := ih h; omega
theorem parts_right {t p : List C} (h : rightB t = true) (hp : p ∈ partsF t) : rightB p = true ∧ p.length < t.length := by
  match t, h with
  | [], h => simp [partsF] at hp
  | c :: cs, h =>
    by_cases hk : c.kind = 3
    · have hs := parts_splits h hk
      obtain ⟨h1, h2, h3, _⟩ := hs.flat
      have hl := mem_length hp
      rw [h1] at hl
      have := ((right_iff _).1 h).2
      simp only [List.length_cons] at *
      exact ⟨(right_iff _).2 ⟨h3 p hp, by omega⟩, by omega⟩
    · rw [parts_other hk] at hp
      cases hp

theorem parts_len {t : List C} (h : rightB t = true) : (partsF t).length ≤ 6 := by
  match t, h with
  | [], h => simp [partsF]
  | c :: cs, h =>
    by_cases hk : c.kind = 3
    · have := (parts_splits h hk).flat.2.1
      have h6 := ok_fun (right_head h).1 hk
      have := ar_fun (right_head h).1 hk
      omega
    · rw [parts_other hk]; simp
def maxA (d : List C → Nat) : Nat → List (List C) → Nat
  | m, [] => m
  | m, p :: l => maxA d (max m (d p)) l
def depthN : Nat → List C → Nat
  | 0, _ => 0
  | f + 1, t => maxA (depthN f) 0 (partsF t) + 1
def depthF (t : List C) : Nat := depthN t.length t
theorem maxA_congr {d d' : List C → Nat} : ∀ (l : List (List C)) (m : Nat), (∀ p ∈ l, d p = d' p) → maxA d m l = maxA d' m l
  | [], _, _ => rfl
  | p :: l, m, h => by
    simp only [maxA]
    rw [h p (by simp)]
    exact maxA_congr l _ fun q hq => h q (by simp [hq])
theorem maxA_le {d : List C → Nat} {b : Nat} : ∀ (l : List (List C)) (m : Nat), m ≤ b → (∀ p ∈ l, d p ≤ b) → maxA d m l ≤ b
  | [], _, h, _ => h
  | p :: l, m, h, hl => maxA_le l _ (by have := hl p (by simp); omega) fun q hq => hl q (by simp [hq])
theorem depthN_fuel : ∀ (f f' : Nat) (t : List C), rightB t = true → t.length ≤ f → t.length ≤ f' → depthN f t = depthN f' t := by
  intro f
  induction f with
  | zero => intro f' t h h1 _; have := skip_pos ((right_iff _).1 h).1; omega
  | succ f ih =>
    intro f' t h h1 h2
    cases f' with
    | zero => have := skip_pos ((right_iff _).1 h).1; omega
    | succ f' =>
      simp only [depthN]
      rw [maxA_congr (d' := depthN f')]
      intro p hp
      obtain ⟨hr, hl⟩ := parts_right h hp
      exact ih f' p hr (by omega) (by omega)
theorem depthN_le : ∀ (f : Nat) (t : List C), depthN f t ≤ f := by
  intro f
  induction f with
  | zero => intro t; exact Nat.le_refl _
  | succ f ih =>
    intro t
    simp only [depthN]
    have := maxA_le (d := depthN f) (b := f) (partsF t) 0 (Nat.zero_le _) fun p _ => ih p
    omega
theorem depthF_eq {t : List C} (h : rightB t = true) : depthF t = maxA depthF 0 (partsF t) + 1 := by
  have h1 := skip_pos ((right_iff _).1 h).1
  obtain ⟨f, hf⟩ : ∃ f, t.length = f + 1 := ⟨t.length - 1, by omega⟩
  unfold depthF
  rw [hf]
  simp only [depthN]
  rw [maxA_congr (d' := fun p => depthN p.length p)]
  intro p hp
  obtain ⟨hr, hl⟩ := parts_right h hp
  exact depthN_fuel _ _ _ hr (by omega) (Nat.le_refl _)
end Go.Proofs.Ytdeaeiolehglaaa

/- The walks that gather a term's variables, and ask whether it has any. -/
namespace Go.Proofs.Ytdeaeiolehglaaa
open Go.RowKit

theorem infoI : (Try.prog.info? 3).map (fun i => (i.zero, i.size, i.bytes)) = some (some (.int .i64 0), 1, 8) := by kernel_rfl
theorem varsA_cons (acc : List Int) (c : C) (cs : List C) : varsA acc (c :: cs) = if c.kind = 1 ∧ inI acc c.n = false then varsA (acc ++ [c.n]) cs else varsA acc cs := rfl


set_option maxHeartbeats 400000 in
theorem rVars_any (A : Option Addr) (n cap : Nat) (t : List C) (w : World) (h : IsC w A n cap t) (hn : n ≤ 100000) :
    Calls Try.prog 45 #[.slice A n cap] w (RetI w (varsF t)) := by
  go_enter Try.func45, Try.ntmps45
  go_wp2
  go_loopw [3, 4] (fun o i wr => ∃ (k m c' : Nat) (Ao : Option Addr) (acc : List Int), k ≤ n ∧ i = .int .i64 k ∧ o = .slice Ao m c' ∧ m ≤ k ∧ wr.ownsRow w.heap.size 3 1 (.slice Ao m c') m (acc.map (Value.int .i64)) ∧ (∀ x ∈ acc, i64 x) ∧ Hid (varsA acc (t.drop k) = varsF t) ∧ Below w.heap.size w wr) (fun _ i _ => n - (intOf i).toNat)
  case atStart => exact ⟨0, 0, 0, _, [], Nat.zero_le _, rfl, rfl, Nat.le_refl _, World.ownsRow_lit w #[] 0 (Nat.le_refl _) (by simp [maxLen]) rfl, by simp, rfl, (Below.refl _ _).alloc (Nat.le_refl _) _⟩
  case round =>
    obtain ⟨k, m, c', Ao, acc, hk, rfl, rfl, hm, hown, hwa, hres, hb⟩ := hrel
    have hacc : IsI wr Ao m c' acc := ⟨Sl.own hown (by omega), hwa⟩
    by_cases hlt : k < n
    · obtain ⟨x, hxk⟩ := h.get hlt
      obtain ⟨b, off, rfl, hbb, hwf, h0, h1, h2⟩ := h.at_ hxk
      have hd := drop_get hxk
      have Hd := Lib.hid hd
      clear hxk hd
      obtain ⟨hc, hf⟩ := bcell hb
      by_cases hk1 : x.kind = 1
      · have hbk : (x.kind == 1) = true := by simp [hk1]
        have Hk1 := Lib.hid hk1
        clear hk1
        have hcon := In_any Ao m c' acc x.n
        cases hin : inI acc x.n
        · rw [hin] at hcon
          have Hcon := Lib.hid hcon
          have Hin := Lib.hid hin
          clear hcon hin
          go_wp2_with (first
            | (go_at_call 46; go_must (refine (Hcon.out _ (hacc.below (by repeat (first | assumption | exact Below.refl _ _ | refine Below.drew ?_ | refine below_drewN ?_ _ | refine Below.alloc ?_ ?_ _ | refine Below.setCell ?_ ?_ _ | (apply Below.size; assumption) | (simp; done) | (simp; omega) | (have hz := hb.size; simp; omega) | (have hz := hb.size; omega) | omega))) (by omega)).mono ?_); rintro e w1 ⟨rfl, rfl⟩)
            | (at_builtin; go_must (refine wpList_append_sl rfl (.tmp 28) (.tmp 34) 70 rfl w.heap.size 3 Try.underlying70 infoI rfl (by omega) rfl (hown.alloc _) rfl (Sl.lit _ _ [.int .i64 x.n] 3 1 1 (by simp) rfl (by simp [maxLen])) (one1 rfl) (by omega) (by omega) (by have := hb.size; simp; omega) ?_); intro A' cap' w1 hown1 hb1 _ _))
          have hb2 : Below w.heap.size w w1 := Below.trans (by repeat (first | assumption | exact Below.refl _ _ | refine Below.drew ?_ | refine below_drewN ?_ _ | refine Below.alloc ?_ ?_ _ | refine Below.setCell ?_ ?_ _ | (apply Below.size; assumption) | (simp; done) | (simp; omega) | (have hz := hb.size; simp; omega) | (have hz := hb.size; omega) | omega)) hb1
          go_roundw
          case rel =>
            refine ⟨k + 1, m + 1, cap', A', acc ++ [x.n], by omega, by go_num, rfl, by omega, by simpa using hown1, ?_, Lib.hid ?_, hb2⟩
            · intro y hy
              rcases List.mem_append.1 hy with hy | hy
              · exact hwa y hy
              · simp at hy; subst hy; exact hwf.n
            · have := hres.out
              rw [Hd.out, varsA_cons, if_pos ⟨Hk1.out, Hin.out⟩] at this
              exact this
          case measure => simp [intOf]; omega
        · rw [hin] at hcon
          have Hcon := Lib.hid hcon
          have Hin := Lib.hid hin
          clear hcon hin
          go_wp2_with (first
            | (go_at_call 46; go_must (refine (Hcon.out _ (hacc.below (by repeat (first | assumption | exact Below.refl _ _ | refine Below.drew ?_ | refine below_drewN ?_ _ | refine Below.alloc ?_ ?_ _ | refine Below.setCell ?_ ?_ _ | (apply Below.size; assumption) | (simp; done) | (simp; omega) | (have hz := hb.size; simp; omega) | (have hz := hb.size; omega) | omega))) (by omega)).mono ?_); rintro e w1 ⟨rfl, rfl⟩))
          go_roundw
          case rel =>
            refine ⟨k + 1, m, c', Ao, acc, by omega, by go_num, rfl, by omega, hown, hwa, Lib.hid ?_, (by repeat (first | assumption | exact Below.refl _ _ | refine Below.drew ?_ | refine below_drewN ?_ _ | refine Below.alloc ?_ ?_ _ | refine Below.setCell ?_ ?_ _ | (apply Below.size; assumption) | (simp; done) | (simp; omega) | (have hz := hb.size; simp; omega) | (have hz := hb.size; omega) | omega))⟩
            have := hres.out
            rw [Hd.out, varsA_cons, if_neg (by simp [Hin.out])] at this
            exact this
          case measure => simp [intOf]; omega
      · have hbk : (x.kind == 1) = false := by simp [hk1]
        have Hk1 := Lib.hid hk1
        clear hk1
        go_wp2
        go_roundw
        case rel =>
          refine ⟨k + 1, m, c', Ao, acc, by omega, by go_num, rfl, by omega, hown, hwa, Lib.hid ?_, (by repeat (first | assumption | exact Below.refl _ _ | refine Below.drew ?_ | refine below_drewN ?_ _ | refine Below.alloc ?_ ?_ _ | refine Below.setCell ?_ ?_ _ | (apply Below.size; assumption) | (simp; done) | (simp; omega) | (have hz := hb.size; simp; omega) | (have hz := hb.size; omega) | omega))⟩
          have := hres.out
          rw [Hd.out, varsA_cons, if_neg (by simp [Hk1.out])] at this
          exact this
        case measure => simp [intOf]; omega
    · go_wp2
      go_ret
      exact ⟨_, _, _, rfl, by have := hres.out; rw [drop_end h.len hlt] at this; rw [← this]; exact hacc, hb⟩






end Go.Proofs.Ytdeaeiolehglaaa

/- 'append' at a step of a region that draws its order: upon an empty literal, or upon a row of the call's own; and what it leaves as it was. No program in sight. -/
namespace Go.Proofs.Ytdeaeiolehglaaa
open Go.RowKit

section
variable {P : Program} {ops : Array Oper} {o : Oper} {a : Act} {w : World} {K : Act → World → Prop} {Q : Exit → Act → World → Prop} {E : Prop}
/-- what an append hands back -/
def AppendedA (w : World) (base : Nat) (e : TypeId) (size n : Nat) (xs : List Value) (As : Option Addr) (v : Value) (w' : World) : Prop :=
  ∃ A' cap', v = .slice A' n cap' ∧ w'.ownsRow base e size (.slice A' n cap') n xs ∧ Below base w w' ∧ Apart w w' As A'
theorem run_append_ap (s x : Operand) (t : TypeId) (ho : o.op = .call { callee := .builtin .append, args := #[s, x], argTypes := #[t, t] })
    (base : Nat) (e : TypeId) {z : Value} {size bytes : Nat} (ht : P.underlying t = some (.slice e)) (hinfo : (P.info? e).map (fun i => (i.zero, i.size, i.bytes)) = some (some z, size, bytes))
    (hzs : z.cells.size = size) (hsz : 0 < size) {As : Option Addr} {n cs : Nat} {xs : List Value} (hs : a.eval s = .slice As n cs) (hown : Own0 w base e size (.slice As n cs) n xs)
    {A : Option Addr} {m c : Nat} {news : List Value} (hx : a.eval x = .slice A m c) (hr : Sl w size A m c news) (h1 : ∀ u ∈ news, u.oneCell' = true) (hm : 0 < m)
    (h63 : n + m ≤ 1000000000000) (hbyt : bytes ≤ 64) (hbase : base ≤ w.heap.size) :
    ∃ v w', (execOp a.eval o).run P w = .ok (.value v) w' ∧ AppendedA w base e size (n + m) (xs ++ news) As v w' := by
  obtain ⟨i, hi, hz, hsize, hby⟩ := info_parts hinfo
  have sl : ∀ {As : Option Addr} {n cs : Nat} {xs : List Value}, a.eval s = .slice As n cs → w.ownsRow base e size (.slice As n cs) n xs → n + m ≤ 1000000000000 → ∃ v w', (execOp a.eval o).run P w = .ok (.value v) w' ∧ AppendedA w base e size (n + m) (xs ++ news) As v w' := by
    intro As n cs xs hs hown h63
    obtain ⟨v', w', hrun, h2, h3, h4⟩ := run_append_sl (P := P) base t o.type e i z size bytes ht hi hz hsize hby hzs hsz _ n xs hown A m c news hr h1 (by simp only [maxLen]; omega)
      (by have : (n + m) * bytes ≤ 1000000000000 * 64 := Nat.mul_le_mul h63 hbyt; omega) hbase
    have hlt := hown.lt
    refine ⟨v', w', by simp only [execOp, ho, resolve, invoke, builtin, Sem.run_bind, Sem.run_pure, Result.andThen_ok, List.map_toArray, List.map_cons, List.map_nil, hs, hx, hrun], ?_⟩
    obtain ⟨A', cap', rfl, _⟩ := Sl.of_own h2 hsz
    refine ⟨A', cap', rfl, h2, (Below.refl base w).grown h3 hbase (fun q hq => (hlt q hq).1), ⟨h3.size, fun g hg hne => h3.block g hg ?_, fun a' ha' => ⟨(Own0.lt h2 a' ha').2, ?_⟩⟩⟩
    · cases As with
      | none => simp [Value.ownBlock]
      | some b => have := hne b rfl; simp [Value.ownBlock]; omega
    · subst ha'
      cases As with
      | none =>
        rcases h4 with h4 | h4
        · simp [Value.ownBlock] at h4
        · right; simp [Value.ownBlock] at h4; omega
      | some b =>
        rcases h4 with h4 | h4
        · left; simp [Value.ownBlock] at h4; exact ⟨b, rfl, h4⟩
        · right; simp [Value.ownBlock] at h4; omega
  rcases hown with ⟨As', he, rfl, rfl⟩ | hown
  · injection he with he1 he2 he3
    subst he1; subst he3
    cases As with
    | none => exact sl hs (World.ownsRow_nil w base e size) h63
    | some b =>
      obtain ⟨b', off, rfl, hlt, hc⟩ := hr.cells hm
      obtain ⟨v', w', hrun, h2, h3⟩ := run_append_arg_grows (P := P) w t o.type e i z size bytes ht hi hz hsize hby hzs hsz b 0 0 [] (by simp) (by simp) ⟨b', off, none⟩ m c news hr.len
        (fun j u hu => by rw [Addr.add_lit]; exact hc j u hu) (by omega) (by simp only [maxLen]; omega) (by have : (0 + m) * bytes ≤ 1000000000000 * 64 := Nat.mul_le_mul h63 hbyt; omega)
      refine ⟨v', w', by simp only [execOp, ho, resolve, invoke, builtin, Sem.run_bind, Sem.run_pure, Result.andThen_ok, List.map_toArray, List.map_cons, List.map_nil, hs, hx, hrun], ?_⟩
      obtain ⟨A', cap', rfl, _⟩ := Sl.of_own h2 hsz
      exact ⟨A', cap', rfl, own_lower h2 hbase, (Below.refl base w).grown h3 hbase (fun q hq => by cases hq), ⟨h3.size, fun g hg _ => h3.block g hg (by simp), fun a' ha' => ⟨(Own0.lt h2 a' ha').2, .inr (Own0.lt h2 a' ha').1⟩⟩⟩
  · exact sl hs hown h63
theorem step_of_runA (hw : Region.wanted o (yielded ops a.tmps) = true) {Φ : Value → World → Prop} (hr : ∃ v w', (execOp a.eval o).run P w = .ok (.value v) w' ∧ Φ v w')
    (k : ∀ v w', Φ v w' → K (a.put o.dst v) w') : if Region.wanted o (yielded ops a.tmps) = true then o.wp P a w K Q else E := by
  obtain ⟨v, w', hr, hp⟩ := hr
  rw [if_pos hw]
  unfold Oper.wp
  rw [hr]
  exact k v w' hp
theorem step_append_ap (hw : Region.wanted o (yielded ops a.tmps) = true) (s x : Operand) (t : TypeId) (ho : o.op = .call { callee := .builtin .append, args := #[s, x], argTypes := #[t, t] })
    (base : Nat) (e : TypeId) {z : Value} {size bytes : Nat} (ht : P.underlying t = some (.slice e)) (hinfo : (P.info? e).map (fun i => (i.zero, i.size, i.bytes)) = some (some z, size, bytes))
    (hzs : z.cells.size = size) (hsz : 0 < size) {As : Option Addr} {n cs : Nat} {xs : List Value} (hs : a.eval s = .slice As n cs) (hown : Own0 w base e size (.slice As n cs) n xs)
    {A : Option Addr} {m c : Nat} {news : List Value} (hx : a.eval x = .slice A m c) (hr : Sl w size A m c news) (h1 : ∀ u ∈ news, u.oneCell' = true) (hm : 0 < m)
    (h63 : n + m ≤ 1000000000000) (hbyt : bytes ≤ 64) (hbase : base ≤ w.heap.size)
    (k : ∀ A' cap' w', w'.ownsRow base e size (.slice A' (n + m) cap') (n + m) (xs ++ news) → Below base w w' → Apart w w' As A' → K (a.put o.dst (.slice A' (n + m) cap')) w') :
    if Region.wanted o (yielded ops a.tmps) = true then o.wp P a w K Q else E :=
  step_of_runA hw (run_append_ap s x t ho base e ht hinfo hzs hsz hs hown hx hr h1 hm h63 hbyt hbase) fun v w' ⟨A', cap', hv, h2, h3, h4⟩ => by
    subst hv
    exact k A' cap' w' h2 h3 h4
end
end Go.Proofs.Ytdeaeiolehglaaa

/- Plain laws on depth and variables. No program in sight. -/
namespace Go.Proofs.Ytdeaeiolehglaaa
open Go.RowKit

/-! ### depth -/
theorem depthF_le (t : List C) : depthF t ≤ t.length := depthN_le _ _
theorem maxA_ge {d : List C → Nat} : ∀ (l : List (List C)) (m : Nat), m ≤ maxA d m l
  | [], _ => Nat.le_refl _
  | p :: l, m => by have := maxA_ge (d := d) l (max m (d p)); simp only [maxA]; omega
theorem maxA_mem {d : List C → Nat} : ∀ (l : List (List C)) (m : Nat), ∀ p ∈ l, d p ≤ maxA d m l
  | [], _ => by simp
  | q :: l, m => by
    intro p hp
    simp only [maxA]
    rcases List.mem_cons.1 hp with rfl | hp
    · have := maxA_ge (d := d) l (max m (d p)); omega
    · exact maxA_mem l _ p hp
theorem depthF_one {t : List C} (h : rightB t = true) : depthF t = 1 ↔ t.length = 1 := by
  match t, h with
  | [], h => simp [rightB] at h
  | c :: cs, h =>
    have he := depthF_eq h
    constructor
    · intro h1
      by_cases hk : c.kind = 3
      · have hs := (parts_splits h hk).flat.1
        cases hp : partsF (c :: cs) with
        | nil => rw [hp] at hs; simp at hs; simp [hs]
        | cons p l =>
          have hp1 : p ∈ partsF (c :: cs) := by rw [hp]; simp
          have := maxA_mem (d := depthF) (partsF (c :: cs)) 0 p hp1
          have h2 := depthF_eq (parts_right h hp1).1
          omega
      · rw [alone h hk]; rfl
    · intro h1
      have := depthF_le (c :: cs)
      omega

/-! ### variables -/
theorem varsA_nil (acc : List Int) : varsA acc [] = acc := rfl
theorem varsA_step (acc : List Int) (c : C) (cs : List C) : varsA acc (c :: cs) = if c.kind = 1 ∧ inI acc c.n = false then varsA (acc ++ [c.n]) cs else varsA acc cs := rfl
theorem varsA_append (p r : List C) : ∀ acc, varsA acc (p ++ r) = varsA (varsA acc p) r := by
  induction p with
  | nil => intro acc; rfl
  | cons c p ih =>
    intro acc
    rw [List.cons_append, varsA_step, varsA_step]
    split
    · exact ih _
    · exact ih _
/-- so many numbers more, each once -/
def mergeV : List Int → List Int → List Int
  | acc, [] => acc
  | acc, x :: l => if inI acc x then mergeV acc l else mergeV (acc ++ [x]) l
theorem mergeV_nil (acc : List Int) : mergeV acc [] = acc := rfl
theorem mergeV_step (acc : List Int) (x : Int) (l : List Int) : mergeV acc (x :: l) = if inI acc x then mergeV acc l else mergeV (acc ++ [x]) l := rfl
theorem inI_append (l : List Int) (x y : Int) : inI (l ++ [x]) y = (inI l y || x == y) := by simp [inI]
theorem mergeV_in (acc l : List Int) (y : Int) : inI (mergeV acc l) y = (inI acc y || inI l y) := by
  induction l generalizing acc with
  | nil => simp [mergeV, inI]
  | cons x l ih =>
    rw [mergeV_step]
    split
    · rename_i h
      rw [ih]
      unfold inI
      rw [List.any_cons]
      by_cases hxy : x = y
      · subst hxy
        have : (acc.any fun y => y == x) = true := h
        rw [this]; rfl
      · have : (x == y) = false := by simpa using hxy
        rw [this]; rfl
    · rw [ih, inI_append]
      unfold inI
      rw [List.any_cons, Bool.or_assoc]
theorem mergeV_snoc (acc l : List Int) (x : Int) : mergeV acc (l ++ [x]) = if inI (mergeV acc l) x then mergeV acc l else mergeV acc l ++ [x] := by
  induction l generalizing acc with
  | nil => rw [List.nil_append, mergeV_step, mergeV_nil, mergeV_nil]
  | cons y l ih =>
    rw [List.cons_append, mergeV_step, mergeV_step]
    split
    · exact ih _
    · exact ih _
theorem varsA_merge (cs : List C) : ∀ acc b, mergeV acc (varsA b cs) = varsA (mergeV acc b) cs := by
  induction cs with
  | nil => intro acc b; rfl
  | cons c cs ih =>
    intro acc b
    rw [varsA_step, varsA_step]
    by_cases hk : c.kind = 1
    · cases hb : inI b c.n
      · rw [if_pos ⟨hk, rfl⟩, ih, mergeV_snoc]
        cases hm : inI (mergeV acc b) c.n
        · rw [if_neg (by simp), if_pos ⟨hk, rfl⟩]
        · rw [if_pos rfl, if_neg (fun h => by cases h.2)]
      · have hm : inI (mergeV acc b) c.n = true := by rw [mergeV_in, hb]; simp
        rw [if_neg (fun h => by cases h.2), if_neg (fun h => by rw [hm] at h; cases h.2), ih]
    · rw [if_neg (fun h => hk h.1), if_neg (fun h => hk h.1), ih]
theorem varsA_part (acc : List Int) (p : List C) : varsA acc p = mergeV acc (varsF p) := by
  rw [varsF, varsA_merge]; rfl
theorem vars_flat (l : List (List C)) (acc : List Int) (k : Nat) (p : List C) (h : l[k]? = some p) : varsA acc (l.take (k + 1)).flatten = mergeV (varsA acc (l.take k).flatten) (varsF p) := by
  obtain ⟨hl, he⟩ := List.getElem?_eq_some_iff.1 h
  rw [List.take_succ_eq_append_getElem hl, he, List.flatten_append, varsA_append, ← varsA_part]
  simp
theorem vars_fun {c : C} (cs : List C) (hk : c.kind ≠ 1) : varsF (c :: cs) = varsF cs := by
  rw [varsF, varsA_step, if_neg (by simp [hk])]; rfl
theorem vars_in (cs : List C) : ∀ acc x, inI (varsA acc cs) x = (inI acc x || cs.any fun c => c.kind == 1 && c.n == x) := by
  induction cs with
  | nil => intro acc x; simp [varsA_nil]
  | cons c cs ih =>
    intro acc x
    rw [varsA_step]
    split
    · rename_i h
      rw [ih, inI_append, List.any_cons, h.1]
      simp [Bool.or_assoc]
    · rename_i h
      rw [ih, List.any_cons]
      by_cases hk : c.kind = 1
      · have hin : inI acc c.n = true := by
          cases hi : inI acc c.n
          · exact absurd ⟨hk, hi⟩ h
          · rfl
        by_cases hx : c.n = x
        · subst hx; rw [hin]; rfl
        · have : (c.n == x) = false := by simpa using hx
          rw [this, Bool.and_false, Bool.false_or]
      · have : (c.kind == 1) = false := by simpa using hk
        rw [this]; rfl
theorem ground_vars (t : List C) : groundF t = ((varsF t).length == 0) := by
  have h : ∀ (cs : List C) (acc : List Int), ((varsA acc cs).length == 0) = ((acc.length == 0) && !(cs.any fun c => c.kind == 1)) := by
    intro cs
    induction cs with
    | nil => intro acc; simp [varsA_nil]
    | cons c cs ih =>
      intro acc
      rw [varsA_step]
      split
      · rename_i h; rw [ih, List.any_cons, h.1]; simp
      · rename_i h
        rw [ih, List.any_cons]
        by_cases hk : c.kind = 1
        · have hin : inI acc c.n = true := by
            cases hi : inI acc c.n
            · exact absurd ⟨hk, hi⟩ h
            · rfl
          cases acc with
          | nil => simp [inI] at hin
          | cons a l => simp
        · have : (c.kind == 1) = false := by simp [hk]
          rw [this]; simp
  have := h t []
  simp at this
  simp only [groundF, varsF]
  rw [Bool.eq_iff_iff]
  simp [this]
end Go.Proofs.Ytdeaeiolehglaaa

/- Terms as trees, and their rows of cells. No program in sight. -/
namespace Go.Proofs.Ytdeaeiolehglaaa
open Go.RowKit

inductive Tm where
  | v (n : Int)
  | i (n : Int)
  | f (s : ByteArray) (asx : List Tm)
mutual
def Tm.flat : Tm → List C
  | .v n => [⟨1, ⟨#[]⟩, n⟩]
  | .i n => [⟨2, ⟨#[]⟩, n⟩]
  | .f s asx => ⟨3, s, asx.length⟩ :: flats asx
def flats : List Tm → List C
  | [] => []
  | t :: ts => t.flat ++ flats ts
end
mutual
def Tm.ok : Tm → Bool
  | .v n => decide (0 ≤ n) && decide (n ≤ 999)
  | .i n => decide (-2147483647 ≤ n) && decide (n ≤ 2147483647)
  | .f s asx => okName s && (decide (asx.length ≤ 6) && oks asx)
def oks : List Tm → Bool
  | [] => true
  | t :: ts => t.ok && oks ts
end
mutual
def Tm.size : Tm → Nat
  | .v _ => 1
  | .i _ => 1
  | .f _ asx => 1 + sizes asx
def sizes : List Tm → Nat
  | [] => 0
  | t :: ts => t.size + sizes ts
end
theorem flats_nil : flats [] = [] := rfl
theorem flats_cons (t : Tm) (ts : List Tm) : flats (t :: ts) = t.flat ++ flats ts := rfl
theorem oks_cons (t : Tm) (ts : List Tm) : oks (t :: ts) = (t.ok && oks ts) := rfl
theorem sizes_cons (t : Tm) (ts : List Tm) : sizes (t :: ts) = t.size + sizes ts := rfl
theorem flats_append : ∀ a b : List Tm, flats (a ++ b) = flats a ++ flats b
  | [], b => rfl
  | t :: a, b => by rw [List.cons_append, flats_cons, flats_cons, flats_append a b, List.append_assoc]
theorem oks_append : ∀ a b : List Tm, oks (a ++ b) = (oks a && oks b)
  | [], b => by simp [oks]
  | t :: a, b => by rw [List.cons_append, oks_cons, oks_cons, oks_append a b, Bool.and_assoc]
theorem sizes_append : ∀ a b : List Tm, sizes (a ++ b) = sizes a + sizes b
  | [], b => by simp [sizes]
  | t :: a, b => by rw [List.cons_append, sizes_cons, sizes_cons, sizes_append a b, Nat.add_assoc]
theorem flats_flatten : ∀ asx : List Tm, flats asx = (asx.map Tm.flat).flatten
  | [] => rfl
  | t :: ts => by rw [flats_cons, List.map_cons, List.flatten_cons, flats_flatten ts]
theorem Tm.size_pos (t : Tm) : 1 ≤ t.size := by cases t <;> simp [Tm.size] <;> omega
mutual
theorem flat_size : ∀ t : Tm, t.flat.length = t.size
  | .v _ => rfl
  | .i _ => rfl
  | .f _ asx => by simp [Tm.flat, Tm.size, flats_size asx]; omega
theorem flats_size : ∀ ts : List Tm, (flats ts).length = sizes ts
  | [] => rfl
  | t :: ts => by rw [flats_cons, sizes_cons, List.length_append, flat_size t, flats_size ts]
end
theorem size_mem {t : Tm} : ∀ {asx : List Tm}, t ∈ asx → t.size ≤ sizes asx
  | a :: asx, h => by
    rw [sizes_cons]
    rcases List.mem_cons.1 h with rfl | h
    · omega
    · have := size_mem h; omega
theorem ok_mem {t : Tm} : ∀ {asx : List Tm}, oks asx = true → t ∈ asx → t.ok = true
  | a :: asx, h, hm => by
    rw [oks_cons, Bool.and_eq_true] at h
    rcases List.mem_cons.1 hm with rfl | hm
    · exact h.1
    · exact ok_mem h.2 hm
theorem length_sizes (asx : List Tm) : asx.length ≤ sizes asx := by
  induction asx with
  | nil => simp [sizes]
  | cons t ts ih => rw [sizes_cons, List.length_cons]; have := t.size_pos; omega

/-- the cell that a term begins with -/
def Tm.c0 : Tm → C
  | .v n => ⟨1, ⟨#[]⟩, n⟩
  | .i n => ⟨2, ⟨#[]⟩, n⟩
  | .f s asx => ⟨3, s, asx.length⟩
def Tm.args : Tm → List Tm
  | .f _ asx => asx
  | _ => []
theorem flat_cons (t : Tm) : t.flat = t.c0 :: flats t.args := by cases t <;> rfl
theorem flat_get0 (t : Tm) : t.flat[0]? = some t.c0 := by rw [flat_cons]; rfl
theorem empty_toList : (⟨#[]⟩ : ByteArray).toList = [] := by rw [ByteArray.toList_eq]
theorem c0_ok {t : Tm} (h : t.ok = true) : t.c0.ok = true := by
  cases t with
  | v n =>
    simp only [Tm.ok] at h
    simp only [Tm.c0, C.ok, if_true, empty_toList, decide_true, Bool.true_and]
    exact h
  | i n =>
    simp only [Tm.ok] at h
    have h21 : ¬ (2 : Int) = 1 := by decide
    simp only [Tm.c0, C.ok, if_neg h21, if_true, empty_toList, decide_true, Bool.true_and]
    exact h
  | f s asx =>
    simp only [Tm.ok, Bool.and_eq_true, decide_eq_true_eq] at h
    have h31 : ¬ (3 : Int) = 1 := by decide
    have h32 : ¬ (3 : Int) = 2 := by decide
    simp only [Tm.c0, C.ok, if_neg h31, if_neg h32, if_true, h.1, Bool.true_and, Bool.and_eq_true, decide_eq_true_eq]
    exact ⟨decide_eq_true (by omega), decide_eq_true (by omega)⟩
theorem c0_ar (t : Tm) : t.c0.ar = t.args.length := by cases t <;> simp [Tm.c0, C.ar, Tm.args]
theorem args_ok {t : Tm} (h : t.ok = true) : oks t.args = true := by
  cases t with
  | v n => rfl
  | i n => rfl
  | f s asx => simp [Tm.ok] at h; exact h.2.2
theorem args_len {t : Tm} (h : t.ok = true) : t.args.length ≤ 6 := by
  cases t with
  | v n => simp [Tm.args]
  | i n => simp [Tm.args]
  | f s asx => simp [Tm.ok] at h; exact h.2.1
theorem size_args (t : Tm) : t.size = 1 + sizes t.args := by cases t <;> simp [Tm.size, Tm.args, sizes]
theorem c0_name {c : C} (h : c.ok = true) (hk : c.kind ≠ 3) : c.name = ⟨#[]⟩ := by
  have hn : c.name.toList = [] := by
    unfold C.ok at h
    by_cases h1 : c.kind = 1
    · simp [h1] at h; exact h.1
    · by_cases h2 : c.kind = 2
      · simp [h2] at h; exact h.1
      · simp [h1, h2, hk] at h
  rw [ByteArray.toList_eq] at hn
  obtain ⟨k, ⟨⟨x⟩⟩, n⟩ := c
  simp at hn
  simp [hn]
theorem c0_kind {c : C} (h : c.ok = true) : c.kind = 1 ∨ c.kind = 2 ∨ c.kind = 3 := by
  unfold C.ok at h
  by_cases h1 : c.kind = 1
  · exact .inl h1
  · by_cases h2 : c.kind = 2
    · exact .inr (.inl h2)
    · by_cases h3 : c.kind = 3
      · exact .inr (.inr h3)
      · simp [h1, h2, h3] at h

/-- passing over trees -/
theorem skip_flats : ∀ (N : Nat) (ts : List Tm), sizes ts ≤ N → oks ts = true → ∀ (r : List C) (k : Nat), skip (flats ts ++ r) (ts.length + k) = skip r k := by
  intro N
  induction N with
  | zero =>
    intro ts hs _ r k
    cases ts with
    | nil => simp [flats]
    | cons t ts => rw [sizes_cons] at hs; have := t.size_pos; omega
  | succ N ih =>
    intro ts hs ho r k
    cases ts with
    | nil => simp [flats]
    | cons t ts =>
      rw [sizes_cons, size_args] at hs
      rw [oks_cons, Bool.and_eq_true] at ho
      rw [flats_cons, flat_cons, List.cons_append, List.cons_append, show (t :: ts).length + k = (ts.length + k) + 1 by simp; omega, skip_cons, if_pos (c0_ok ho.1), c0_ar]
      rw [show ts.length + k + t.args.length = (t.args ++ ts).length + k by simp; omega, List.append_assoc, ← List.append_assoc, ← flats_append]
      exact ih (t.args ++ ts) (by rw [sizes_append]; omega) (by rw [oks_append, args_ok ho.1, ho.2]; rfl) r k
theorem tree_of : ∀ (N : Nat) (t : List C), t.length ≤ N → ∀ k, skip t k = some [] → ∃ Ts : List Tm, Ts.length = k ∧ oks Ts = true ∧ flats Ts = t := by
  intro N
  induction N with
  | zero =>
    intro t ht k h
    have : t = [] := List.eq_nil_of_length_eq_zero (by omega)
    subst this
    cases k with
    | zero => exact ⟨[], rfl, rfl, rfl⟩
    | succ k => rw [skip_nil _ (by omega)] at h; cases h
  | succ N ih =>
    intro t ht k h
    cases t with
    | nil =>
      cases k with
      | zero => exact ⟨[], rfl, rfl, rfl⟩
      | succ k => rw [skip_nil _ (by omega)] at h; cases h
    | cons c cs =>
      cases k with
      | zero => rw [skip_zero] at h; cases h
      | succ k =>
        rw [skip_cons] at h
        split at h
        · rename_i hc
          obtain ⟨Us, h1, h2, h3⟩ := ih cs (by simp at ht; omega) _ h
          rw [← List.take_append_drop c.ar Us, oks_append, Bool.and_eq_true] at h2
          have hf : flats (Us.take c.ar) ++ flats (Us.drop c.ar) = cs := by rw [← flats_append, List.take_append_drop]; exact h3
          have hl : (Us.take c.ar).length = c.ar := by rw [List.length_take]; omega
          have hl' : (Us.drop c.ar).length = k := by rw [List.length_drop]; omega
          have key : ∃ T : Tm, T.ok = true ∧ T.flat = c :: flats (Us.take c.ar) := by
            by_cases hk : c.kind = 3
            · refine ⟨.f c.name (Us.take c.ar), ?_, ?_⟩
              · have h6 := ok_fun hc hk
                have har := ar_fun hc hk
                have hn : okName c.name = true := by
                  unfold C.ok at hc
                  simp [hk] at hc
                  exact hc.1
                simp only [Tm.ok, hn, h2.1, Bool.and_true, Bool.true_and, decide_eq_true_eq]
                omega
              · have har := ar_fun hc hk
                simp only [Tm.flat, hl, har]
                congr 1
                obtain ⟨q, s, n⟩ := c
                simp at hk ⊢
                exact hk.symm
            · have ha := ar_other hk
              rw [ha] at *
              have hn := c0_name hc hk
              rw [List.take_zero]
              rcases c0_kind hc with h1 | h1 | h1
              · refine ⟨.v c.n, ?_, ?_⟩
                · unfold C.ok at hc; simp [h1] at hc; simp [Tm.ok, hc.2]
                · obtain ⟨q, s, n⟩ := c
                  simp at h1 hn
                  subst h1 hn
                  rfl
              · refine ⟨.i c.n, ?_, ?_⟩
                · unfold C.ok at hc; simp [h1] at hc; simp [Tm.ok, hc.2]
                · obtain ⟨q, s, n⟩ := c
                  simp at h1 hn
                  subst h1 hn
                  rfl
              · exact absurd h1 hk
          obtain ⟨T, ht1, ht2⟩ := key
          exact ⟨T :: Us.drop c.ar, by simp [hl'], by rw [oks_cons, ht1, h2.2]; rfl, by rw [flats_cons, ht2, List.cons_append, hf]⟩
        · cases h
theorem right_flat {T : Tm} (h : T.ok = true) (hs : T.size ≤ 200) : rightB T.flat = true := by
  rw [right_iff, flat_size]
  refine ⟨?_, hs⟩
  have := skip_flats (sizes [T]) [T] (Nat.le_refl _) (by simp [oks, h]) [] 0
  simpa [flats, skip_zero] using this
theorem right_tree {t : List C} (h : rightB t = true) : ∃ T : Tm, T.ok = true ∧ T.flat = t ∧ T.size ≤ 200 := by
  obtain ⟨h1, h2⟩ := (right_iff t).1 h
  obtain ⟨Ts, a1, a2, a3⟩ := tree_of t.length t (Nat.le_refl _) 1 h1
  match Ts, a1 with
  | [T], _ =>
    have a3' : T.flat = t := by simpa [flats] using a3
    exact ⟨T, by simpa [oks] using a2, a3', by rw [← flat_size, a3']; exact h2⟩

/-- rows of terms with the same cells, and asx many, are the same -/
theorem same_rows : ∀ (a b : List (List C)), a.length = b.length → (∀ p ∈ a, skip p 1 = some []) → (∀ p ∈ b, skip p 1 = some []) → a.flatten = b.flatten → a = b
  | [], [], _, _, _, _ => rfl
  | [], _ :: _, h, _, _, _ => by simp at h
  | _ :: _, [], h, _, _, _ => by simp at h
  | p :: a, q :: b, h, ha, hb, he => by
    rw [List.flatten_cons, List.flatten_cons] at he
    have h1 := skip_append p a.flatten 1 (ha p (by simp))
    have h2 := skip_append q b.flatten 1 (hb q (by simp))
    rw [he, h2] at h1
    injection h1 with h1
    have hpq : p = q := by
      have := congrArg List.length he
      rw [h1] at he
      exact (List.append_cancel_right he)
    rw [hpq, same_rows a b (by simpa using h) (fun x hx => ha x (by simp [hx])) (fun x hx => hb x (by simp [hx])) h1.symm]
theorem parts_flat {T : Tm} (h : T.ok = true) (hs : T.size ≤ 200) : partsF T.flat = T.args.map Tm.flat := by
  have hr := right_flat h hs
  have hfc := flat_cons T
  by_cases hk : T.c0.kind = 3
  · rw [hfc] at hr
    have hsp := parts_splits hr hk
    rw [hfc]
    refine same_rows _ _ ?_ ?_ ?_ ?_
    · rw [hsp.flat.2.1, c0_ar, List.length_map]
    · intro p hp
      exact ((right_iff p).1 (parts_right hr hp).1).1
    · intro p hp
      obtain ⟨U, hU, rfl⟩ := List.mem_map.1 hp
      have := skip_flats (sizes [U]) [U] (Nat.le_refl _) (by simp [oks, ok_mem (args_ok h) hU]) [] 0
      simpa [flats, skip_zero] using this
    · rw [← flats_flatten]; exact hsp.flat.1
  · have ha : T.args = [] := by cases T <;> first | rfl | exact absurd rfl hk
    rw [hfc, parts_other hk, ha]; rfl
end Go.Proofs.Ytdeaeiolehglaaa

/- Plain laws on terms whose variables are turned into others. No program in sight. -/
namespace Go.Proofs.Ytdeaeiolehglaaa
open Go.RowKit

def turnC (f : Int → Int) (c : C) : C := if c.kind = 1 then { c with n := f c.n } else c
theorem turnF_map (f : Int → Int) (t : List C) : turnF f t = t.map (turnC f) := rfl
theorem turnC_kind (f : Int → Int) (c : C) : (turnC f c).kind = c.kind := by unfold turnC; split <;> rfl
theorem turnC_ar (f : Int → Int) (c : C) : (turnC f c).ar = c.ar := by
  unfold turnC
  split
  · rename_i h; simp [C.ar, h]
  · rfl
theorem turnC_var {f : Int → Int} {c : C} (h : c.kind = 1) : turnC f c = { c with n := f c.n } := by simp [turnC, h]
theorem turnC_other {f : Int → Int} {c : C} (h : c.kind ≠ 1) : turnC f c = c := by simp [turnC, h]
theorem ok_var {c : C} (h : c.ok = true) (hk : c.kind = 1) : c.name.toList = [] ∧ 0 ≤ c.n ∧ c.n ≤ 999 := by
  unfold C.ok at h
  simpa [hk] using h
theorem turnC_ok {f : Int → Int} {c : C} (h : c.ok = true) (hf : c.kind = 1 → 0 ≤ f c.n ∧ f c.n ≤ 999) : (turnC f c).ok = true := by
  by_cases hk : c.kind = 1
  · rw [turnC_var hk]
    obtain ⟨h1, h2, h3⟩ := ok_var h hk
    obtain ⟨h4, h5⟩ := hf hk
    unfold C.ok
    simp [hk, h1, h4, h5]
  · rw [turnC_other hk]; exact h
theorem turnC_back {f : Int → Int} {c : C} (h : (turnC f c).ok = true) (hk : c.kind = 1) : 0 ≤ f c.n ∧ f c.n ≤ 999 := by
  rw [turnC_var hk] at h
  exact (ok_var h hk).2

theorem skip_turn {f : Int → Int} (cs : List C) : (∀ c ∈ cs, (turnC f c).ok = c.ok) → ∀ k, skip (cs.map (turnC f)) k = (skip cs k).map (List.map (turnC f)) := by
  induction cs with
  | nil => intro _ k; cases k <;> rfl
  | cons c cs ih =>
    intro h k
    cases k with
    | zero => rfl
    | succ k =>
      rw [List.map_cons, skip_cons, skip_cons, h c (by simp), turnC_ar]
      split
      · exact ih (fun d hd => h d (by simp [hd])) _
      · rfl
theorem skip_ok {cs : List C} : ∀ {k : Nat}, skip cs k = some [] → ∀ c ∈ cs, c.ok = true := by
  induction cs with
  | nil => simp
  | cons c cs ih =>
    intro k h d hd
    cases k with
    | zero => rw [skip_zero] at h; cases h
    | succ k =>
      rw [skip_cons] at h
      split at h
      · rename_i ho
        rcases List.mem_cons.1 hd with rfl | hd
        · exact ho
        · exact ih h d hd
      · cases h
theorem right_ok {t : List C} (h : rightB t = true) : ∀ c ∈ t, c.ok = true := skip_ok ((right_iff _).1 h).1
theorem right_var {t : List C} (h : rightB t = true) : ∀ c ∈ t, c.kind = 1 → 0 ≤ c.n ∧ c.n ≤ 999 := fun c hc hk => (ok_var (right_ok h c hc) hk).2
theorem turn_len (f : Int → Int) (t : List C) : (turnF f t).length = t.length := by simp [turnF]
theorem turn_right {f : Int → Int} {t : List C} (h : rightB t = true) (hf : ∀ c ∈ t, c.kind = 1 → 0 ≤ f c.n ∧ f c.n ≤ 999) : rightB (turnF f t) = true := by
  obtain ⟨h1, h2⟩ := (right_iff _).1 h
  have hok := skip_ok h1
  rw [right_iff, turn_len]
  refine ⟨?_, h2⟩
  rw [turnF_map, skip_turn t (fun c hc => by rw [hok c hc]; exact turnC_ok (hok c hc) (hf c hc)), h1]
  rfl
theorem turn_back {f : Int → Int} {t : List C} (h : rightB (turnF f t) = true) : ∀ c ∈ t, c.kind = 1 → 0 ≤ f c.n ∧ f c.n ≤ 999 := by
  intro c hc hk
  exact turnC_back (right_ok h (turnC f c) (List.mem_map.2 ⟨c, hc, rfl⟩)) hk

/-! ### parts and depth stay -/
theorem Splits.inv : ∀ {cs : List C} {k : Nat} {l : List (List C)}, Splits cs k l → (k = 0 ∧ cs = [] ∧ l = []) ∨ ∃ p r k' l', k = k' + 1 ∧ cs = p ++ r ∧ l = p :: l' ∧ skip p 1 = some [] ∧ Splits r k' l' := by
  intro cs k l h
  induction h with
  | nil => exact .inl ⟨rfl, rfl, rfl⟩
  | cons hp hr _ => exact .inr ⟨_, _, _, _, rfl, rfl, rfl, hp, hr⟩
theorem Splits.unique : ∀ {cs : List C} {k : Nat} {l : List (List C)}, Splits cs k l → ∀ {l'}, Splits cs k l' → l = l' := by
  intro cs k l h
  induction h with
  | nil =>
    intro l' h'
    rcases h'.inv with ⟨_, _, rfl⟩ | ⟨_, _, _, _, h, _⟩
    · rfl
    · cases h
  | cons hp hr ih =>
    intro l' h'
    rename_i p r k l
    rcases h'.inv with ⟨h, _, _⟩ | ⟨p', r', k', l'', hk, hcs, rfl, hp', hr'⟩
    · cases h
    · obtain rfl : k = k' := by omega
      have e1 := skip_append p r 1 hp
      have e2 := skip_append p' r' 1 hp'
      rw [hcs, e2] at e1
      injection e1 with e1
      subst e1
      have e3 : p = p' := List.append_cancel_right hcs
      subst e3
      rw [ih hr']
theorem Splits.turn {f : Int → Int} : ∀ {cs : List C} {k : Nat} {l : List (List C)}, Splits cs k l → (∀ c ∈ cs, (turnC f c).ok = c.ok) → Splits (cs.map (turnC f)) k (l.map (List.map (turnC f))) := by
  intro cs k l h
  induction h with
  | nil => intro _; exact .nil
  | cons hp hr ih =>
    rename_i p r k l
    intro hok
    rw [List.map_append, List.map_cons]
    refine .cons ?_ (ih fun c hc => hok c (List.mem_append.2 (.inr hc)))
    rw [skip_turn p (fun c hc => hok c (List.mem_append.2 (.inl hc))), hp]
    rfl
theorem parts_turn {f : Int → Int} {t : List C} (h : rightB t = true) (h' : rightB (turnF f t) = true) : partsF (turnF f t) = (partsF t).map (turnF f) := by
  match t, h, h' with
  | [], h, _ => simp [rightB] at h
  | c :: cs, h, h' =>
    have hok : ∀ d ∈ cs, (turnC f d).ok = d.ok := fun d hd => by
      rw [right_ok h d (by simp [hd])]
      exact right_ok h' (turnC f d) (List.mem_map.2 ⟨d, by simp [hd], rfl⟩)
    have hc : turnF f (c :: cs) = turnC f c :: cs.map (turnC f) := rfl
    rw [hc] at h' ⊢
    by_cases hk : c.kind = 3
    · have h1 := parts_splits h' (by rw [turnC_kind]; exact hk)
      rw [turnC_ar] at h1
      have h2 := (parts_splits h hk).turn hok
      exact h1.unique h2
    · rw [parts_other hk, parts_other (by rw [turnC_kind]; exact hk)]; rfl
theorem depthN_turn {f : Int → Int} : ∀ (n : Nat) (t : List C), rightB t = true → (∀ c ∈ t, c.kind = 1 → 0 ≤ f c.n ∧ f c.n ≤ 999) → depthN n (turnF f t) = depthN n t := by
  intro n
  induction n with
  | zero => intro t _ _; rfl
  | succ n ih =>
    intro t h hf
    have key : ∀ (l : List (List C)) (m : Nat), (∀ p ∈ l, depthN n (turnF f p) = depthN n p) → maxA (depthN n) m (l.map (turnF f)) = maxA (depthN n) m l := by
      intro l
      induction l with
      | nil => intro m _; rfl
      | cons p l ihl =>
        intro m hl
        simp only [List.map_cons, maxA]
        rw [hl p (by simp)]
        exact ihl _ fun q hq => hl q (by simp [hq])
    simp only [depthN]
    rw [parts_turn h (turn_right h hf), key]
    intro p hp
    refine ih p (parts_right h hp).1 fun c hc hk => hf c ?_ hk
    match t, h, hp with
    | d :: ds, h, hp =>
      by_cases hk3 : d.kind = 3
      · have hfl := (parts_splits h hk3).flat.1
        rw [← hfl]
        exact List.mem_cons_of_mem _ (List.mem_flatten.2 ⟨p, hp, hc⟩)
      · rw [parts_other hk3] at hp; cases hp
theorem depth_turn {f : Int → Int} {t : List C} (h : rightB t = true) (hf : ∀ c ∈ t, c.kind = 1 → 0 ≤ f c.n ∧ f c.n ≤ 999) : depthF (turnF f t) = depthF t := by
  unfold depthF
  rw [turn_len]
  exact depthN_turn _ _ h hf

/-! ### variables are turned -/
theorem inI_map {f : Int → Int} {P : Int → Prop} (hinj : ∀ x y, P x → P y → f x = f y → x = y) (l : List Int) (x : Int) (hl : ∀ y ∈ l, P y) (hx : P x) : inI (l.map f) (f x) = inI l x := by
  rw [Bool.eq_iff_iff, inI_iff, inI_iff, List.mem_map]
  constructor
  · rintro ⟨y, hy, he⟩
    rw [← hinj y x (hl y hy) hx he]
    exact hy
  · intro h; exact ⟨x, h, rfl⟩
theorem vars_turn {f : Int → Int} {P : Int → Prop} (hinj : ∀ x y, P x → P y → f x = f y → x = y) (cs : List C) : ∀ acc, (∀ y ∈ acc, P y) → (∀ c ∈ cs, c.kind = 1 → P c.n) → varsA (acc.map f) (turnF f cs) = (varsA acc cs).map f := by
  induction cs with
  | nil => intro acc _ _; rfl
  | cons c cs ih =>
    intro acc ha hc
    have e : turnF f (c :: cs) = turnC f c :: turnF f cs := rfl
    rw [e, varsA_step, varsA_step, turnC_kind]
    by_cases hk : c.kind = 1
    · have hP := hc c (by simp) hk
      have en : (turnC f c).n = f c.n := by rw [turnC_var hk]
      rw [en, inI_map hinj acc c.n ha hP]
      cases hi : inI acc c.n
      · rw [if_pos ⟨hk, rfl⟩, if_pos ⟨hk, rfl⟩]
        have := ih (acc ++ [c.n]) (fun y hy => by
          rcases List.mem_append.1 hy with hy | hy
          · exact ha y hy
          · simp at hy; subst hy; exact hP) fun d hd => hc d (by simp [hd])
        rw [List.map_append] at this
        exact this
      · rw [if_neg (fun h => by cases h.2), if_neg (fun h => by cases h.2)]
        exact ih acc ha fun d hd => hc d (by simp [hd])
    · rw [if_neg (fun h => hk h.1), if_neg (fun h => hk h.1)]
      exact ih acc ha fun d hd => hc d (by simp [hd])
theorem varsF_turn {f : Int → Int} {P : Int → Prop} (hinj : ∀ x y, P x → P y → f x = f y → x = y) (t : List C) (hc : ∀ c ∈ t, c.kind = 1 → P c.n) : varsF (turnF f t) = (varsF t).map f :=
  vars_turn hinj t [] (by simp) hc
theorem turn_congr {f g : Int → Int} {t : List C} (h : ∀ c ∈ t, c.kind = 1 → f c.n = g c.n) : turnF f t = turnF g t := by
  rw [turnF_map, turnF_map]
  apply List.map_congr_left
  intro c hc
  by_cases hk : c.kind = 1
  · rw [turnC_var hk, turnC_var hk, h c hc hk]
  · rw [turnC_other hk, turnC_other hk]
theorem turn_turn (f g : Int → Int) (t : List C) : turnF f (turnF g t) = turnF (fun x => f (g x)) t := by
  rw [turnF_map, turnF_map, turnF_map, List.map_map]
  apply List.map_congr_left
  intro c _
  by_cases hk : c.kind = 1
  · simp [turnC, hk]
  · simp [turnC, hk]
theorem turn_id {f : Int → Int} {t : List C} (h : ∀ c ∈ t, c.kind = 1 → f c.n = c.n) : turnF f t = t := by
  rw [turnF_map]
  conv => rhs; rw [← List.map_id t]
  apply List.map_congr_left
  intro c hc
  by_cases hk : c.kind = 1
  · rw [turnC_var hk, h c hc hk]; rfl
  · rw [turnC_other hk]; rfl
theorem mem_vars {t : List C} {x : Int} : x ∈ varsF t ↔ ∃ c ∈ t, c.kind = 1 ∧ c.n = x := by
  rw [← inI_iff, varsF, vars_in]
  simp [inI]

/-! ### places -/
theorem idx_get {l : List Int} : ∀ (k i : Nat) (x : Int), l.Nodup → l[i]? = some x → idxF (fun y => y == x) k l = ((k + i : Nat) : Int) := by
  induction l with
  | nil => intro k i x _ h; simp at h
  | cons y l ih =>
    intro k i x hn h
    rw [List.nodup_cons] at hn
    cases i with
    | zero => simp at h; subst h; simp [idxF]
    | succ i =>
      have h' : l[i]? = some x := by simpa using h
      have hne : (y == x) = false := by
        rw [beq_eq_false_iff_ne]
        rintro rfl
        exact hn.1 (List.mem_of_getElem? h')
      rw [idxF, if_neg (by rw [hne]; simp), ih (k + 1) i x hn.2 h']
      congr 1
      omega
theorem place_get {l : List Int} {i : Nat} {x : Int} (hn : l.Nodup) (h : l[i]? = some x) : placeI l x = i := by
  have := idx_get 0 i x hn h
  simpa [placeI] using this
theorem varsA_nodup (cs : List C) : ∀ acc : List Int, acc.Nodup → (varsA acc cs).Nodup := by
  induction cs with
  | nil => intro acc h; exact h
  | cons c cs ih =>
    intro acc h
    rw [varsA_step]
    split
    · rename_i hc
      refine ih _ ?_
      rw [List.nodup_append]
      refine ⟨h, by simp, ?_⟩
      intro a ha b hb hab
      simp at hb
      subst hb
      subst hab
      have := hc.2
      rw [← Bool.not_eq_true, inI_iff] at this
      exact this ha
    · exact ih acc h
theorem varsF_nodup (t : List C) : (varsF t).Nodup := varsA_nodup t [] (by simp)
theorem place_inj {l : List Int} (hn : l.Nodup) : ∀ x y, x ∈ l → y ∈ l → placeI l x = placeI l y → x = y := by
  intro x y hx hy h
  obtain ⟨i, hi⟩ := List.getElem?_of_mem hx
  obtain ⟨j, hj⟩ := List.getElem?_of_mem hy
  rw [place_get hn hi, place_get hn hj] at h
  obtain rfl : i = j := by omega
  rw [hi] at hj
  injection hj
theorem place_range {l : List Int} (hn : l.Nodup) {x : Int} (hx : x ∈ l) : 0 ≤ placeI l x ∧ placeI l x < l.length := by
  obtain ⟨i, hi⟩ := List.getElem?_of_mem hx
  have := (List.getElem?_eq_some_iff.1 hi).1
  rw [place_get hn hi]
  omega
theorem map_place {l : List Int} (hn : l.Nodup) : l.map (placeI l) = (List.range l.length).map Int.ofNat := by
  apply List.ext_getElem?
  intro i
  rw [List.getElem?_map, List.getElem?_map]
  by_cases hi : i < l.length
  · rw [List.getElem?_eq_getElem hi, List.getElem?_range hi]
    simp only [Option.map_some]
    rw [place_get hn (List.getElem?_eq_getElem hi)]
    rfl
  · rw [List.getElem?_eq_none (by omega), List.getElem?_eq_none (by simpa using hi)]; rfl
end Go.Proofs.Ytdeaeiolehglaaa

/- What the functions of layer 10 compute, in plain words over trees. No program in sight. -/
namespace Go.Proofs.Ytdeaeiolehglaaa
open Go.RowKit

/-- an instruction -/
structure In where
  op : Int
  x : Int := 0
  a : Int := 0
  name : ByteArray := ⟨#[]⟩
  n : Int := 0
  neg : Bool := false
deriving DecidableEq
/-- a clause: a head, and literals -/
structure Ltl where
  neg : Bool
  t : Tm
structure Cls where
  head : Tm
  body : List Ltl

/-- code that is made: instructions, the next new register, variables and their registers -/
structure St where
  code : List In
  next : Nat
  vars : List Int
  regs : List Int
def St.emit (s : St) (i : In) : St := { s with code := s.code ++ [i] }
def St.bump (s : St) : St := { s with next := s.next + 1 }
def St.addv (s : St) (v r : Int) : St := { s with vars := s.vars ++ [v], regs := s.regs ++ [r] }
/-- a variable's register, and whether it is new -/
def regF (s : St) (v : Int) : St × Int × Bool :=
  match s.regs[(placeI s.vars v).toNat]?, decide (0 ≤ placeI s.vars v) with
  | some r, true => (s, r, false)
  | _, _ => (s.bump.addv v s.next, s.next, true)
/-- an argument that is a variable or a number -/
def oneF (first again number : Int) (s : St) : Tm → St
  | .v n => (regF s n).1.emit { op := if (regF s n).2.2 then first else again, x := (regF s n).2.1 }
  | .i n => s.emit { op := number, n := n }
  | .f _ _ => s
def unisF (s : St) : List Tm → St × List (Tm × Int)
  | [] => (s, [])
  | .f nm asx :: ts => ((unisF (s.emit { op := 5, x := s.next }).bump ts).1, (.f nm asx, (s.next : Int)) :: (unisF (s.emit { op := 5, x := s.next }).bump ts).2)
  | t :: ts => unisF (oneF 5 6 7 s t) ts
/-- one of the head's row -/
def headF (s : St) : Tm × Int → St × List (Tm × Int)
  | (.v n, reg) => ((regF s n).1.emit { op := if (regF s n).2.2 then 1 else 2, x := (regF s n).2.1, a := reg }, [])
  | (.i n, reg) => (s.emit { op := 3, a := reg, n := n }, [])
  | (.f nm asx, reg) => unisF (s.emit { op := 4, a := reg, name := nm, n := asx.length }) asx
def headsF : Nat → St → List (Tm × Int) → St
  | 0, s, _ => s
  | _ + 1, s, [] => s
  | k + 1, s, a :: row => headsF k (headF s a).1 (row ++ (headF s a).2)
def numbered : Nat → List Tm → List (Tm × Int)
  | _, [] => []
  | k, t :: ts => (t, (k : Int)) :: numbered (k + 1) ts
def setsF (s : St) : List Tm → List Int → St
  | .f _ _ :: ts, x :: xs => setsF (s.emit { op := 10, x := x }) ts xs
  | t :: ts, _ :: xs => setsF (oneF 9 10 11 s t) ts xs
  | _, _ => s
mutual
def buildF (s : St) : Tm → St × Int
  | .f nm asx => (setsF ((argsF s asx).1.bump.emit { op := 8, a := (argsF s asx).1.next, name := nm, n := asx.length }) asx (argsF s asx).2, (argsF s asx).1.next)
  | _ => (s, -1)
def argsF (s : St) : List Tm → St × List Int
  | [] => (s, [])
  | t :: ts => ((argsF (buildF s t).1 ts).1, (buildF s t).2 :: (argsF (buildF s t).1 ts).2)
end
def bodyF (s : St) : List Ltl → St
  | [] => s
  | l :: ls => bodyF ((buildF s l.t).1.emit { op := 12, a := (buildF s l.t).2, neg := l.neg }) ls
def lastI (t : Tm) : In := { op := 13, name := t.c0.name, n := t.c0.n }
def startF (t : Tm) : St := ⟨[], t.args.length, [], []⟩
def compF (c : Cls) : List In := (bodyF (headsF (sizes c.head.args) (startF c.head) (numbered 0 c.head.args)) c.body).code ++ [lastI c.head]

/-- how many registers an instruction asks for -/
def regs1 (n : Int) (i : In) : Int :=
  if i.op = 1 ∨ i.op = 2 then max n (max (i.x + 1) (i.a + 1))
  else if i.op = 5 ∨ i.op = 6 ∨ i.op = 9 ∨ i.op = 10 then max n (i.x + 1)
  else if i.op = 3 ∨ i.op = 4 ∨ i.op = 8 ∨ i.op = 12 then max n (i.a + 1)
  else n
def regsF (n : Int) : List In → Int
  | [] => n
  | i :: l => regsF (regs1 n i) l
end Go.Proofs.Ytdeaeiolehglaaa

/- A slice that is the end of a row of the call's own: cut at its beginning, grown at its end. No program in sight. -/
namespace Go.Proofs.Ytdeaeiolehglaaa
open Go.RowKit

/-- without room, or the end of a row of the call's own -/
structure Tail (w : World) (base : Nat) (e : TypeId) (size : Nat) (A : Option Addr) (n cap : Nat) (xs : List Value) : Prop where
  len : xs.length = n * size
  hcap : n ≤ cap
  hmax : cap ≤ maxLen
  form : cap = 0 ∨ ∃ g off cur, A = some ⟨g, off, none⟩ ∧ base ≤ g ∧ w.heap[g]? = some (.cells cur e (0, 0)) ∧ off + cap * size ≤ cur.size ∧ (cur.toList.drop off).take (n * size) = xs
section
variable {w w' : World} {base : Nat} {e : TypeId} {size n cap : Nat} {A : Option Addr} {xs : List Value}
theorem Tail.nil (w : World) (base : Nat) (e : TypeId) (size : Nat) (A : Option Addr) : Tail w base e size A 0 0 [] := ⟨by simp, Nat.le_refl _, by simp [maxLen], .inl rfl⟩
theorem Tail.own (h : w.ownsRow base e size (.slice A n cap) n xs) : Tail w base e size A n cap xs := by
  rcases h.2 with ⟨h1, rfl⟩ | ⟨g, cap', cur, h1, hb, hg, hn, hm, hs, ht⟩
  · injection h1 with h1 h2 h3
    subst h1 h3
    exact ⟨h.1, Nat.le_refl _, by simp [maxLen], .inl rfl⟩
  · injection h1 with h1 h2 h3
    subst h1 h3
    exact ⟨h.1, hn, hm, .inr ⟨g, 0, cur, rfl, hb, hg, by omega, by simpa using ht⟩⟩
theorem Tail.lower {base' : Nat} (h : Tail w base e size A n cap xs) (hb : base' ≤ base) : Tail w base' e size A n cap xs :=
  ⟨h.len, h.hcap, h.hmax, h.form.imp id fun ⟨g, off, cur, h1, h2, r⟩ => ⟨g, off, cur, h1, by omega, r⟩⟩
theorem Tail.at_ (h : Tail w base e size A n cap xs) (hk : ∀ a, A = some a → w'.heap[a.block]? = w.heap[a.block]?) : Tail w' base e size A n cap xs :=
  ⟨h.len, h.hcap, h.hmax, h.form.imp id fun ⟨g, off, cur, h1, h2, h3, r⟩ => ⟨g, off, cur, h1, h2, by rw [hk _ h1]; exact h3, r⟩⟩
theorem Tail.below (h : Tail w base e size A n cap xs) (hb : Below w.heap.size w w') : Tail w' base e size A n cap xs :=
  ⟨h.len, h.hcap, h.hmax, h.form.imp id fun ⟨g, off, cur, h1, h2, h3, r⟩ => ⟨g, off, cur, h1, h2, by rw [hb.block g (Array.getElem?_eq_some_iff.1 h3).1]; exact h3, r⟩⟩
/-- its block is new, and no other one -/
theorem Tail.lt (h : Tail w base e size A n cap xs) (hc : 0 < cap) : ∀ a, A = some a → base ≤ a.block ∧ a.block < w.heap.size := by
  intro a ha
  rcases h.form with h0 | ⟨g, off, cur, h1, h2, h3, _⟩
  · omega
  · rw [h1] at ha
    injection ha with ha
    subst ha
    exact ⟨h2, (Array.getElem?_eq_some_iff.1 h3).1⟩
theorem Tail.ne {g : Nat} {x : Obj} (h : Tail w base e size A n cap xs) (hc : 0 < cap) (hx : w.heap[g]? = some x) (hne : ∀ cur, x ≠ .cells cur e (0, 0)) : ∀ a, A = some a → a.block ≠ g := by
  intro a ha hg
  rcases h.form with h0 | ⟨g', off, cur, h1, h2, h3, _⟩
  · omega
  · rw [h1] at ha
    injection ha with ha
    subst ha
    simp at hg
    subst hg
    rw [hx] at h3
    injection h3 with h3
    exact hne cur h3
theorem Tail.sl (h : Tail w base e size A n cap xs) (hs : 0 < size) : Sl w size A n cap xs := by
  refine ⟨h.len, h.hcap, h.hmax, fun hn => ?_⟩
  rcases h.form with h0 | ⟨g, off, cur, h1, h2, h3, h4, h5⟩
  · have := h.hcap; omega
  · refine ⟨g, off, h1, (Array.getElem?_eq_some_iff.1 h3).1, fun j u hu => ?_⟩
    rw [cell_of_row w g (off + j) cur e (0, 0) h3]
    rw [← h5, List.getElem?_take] at hu
    split at hu
    · rw [List.getElem?_drop] at hu
      simpa using hu
    · cases hu
/-- 's[1:]' -/
theorem Tail.cut1 (h : Tail w base e size A n cap xs) (hn : 0 < n) : Tail w base e size (if cap = 1 then A else A.map (·.add (1 * size))) (n - 1) (cap - 1) (xs.drop size) := by
  have hl := h.len
  have hsub : (n - 1) * size = n * size - size := by rw [Nat.sub_mul, Nat.one_mul]
  refine ⟨by rw [List.length_drop, hl, hsub], by have := h.hcap; omega, by have := h.hmax; omega, ?_⟩
  rcases h.form with h0 | ⟨g, off, cur, h1, h2, h3, h4, h5⟩
  · have := h.hcap; omega
  · by_cases hc : cap = 1
    · exact .inl (by omega)
    · refine .inr ⟨g, off + size, cur, ?_, h2, h3, ?_, ?_⟩
      · rw [if_neg hc, h1]; simp [Addr.add]
      · have : (cap - 1) * size = cap * size - size := by rw [Nat.sub_mul, Nat.one_mul]
        have h6 : size ≤ cap * size := Nat.le_mul_of_pos_left size (by have := h.hcap; omega)
        omega
      · rw [← h5, List.drop_take, List.drop_drop, hsub]
end
section
variable {P : Program} {ops : Array Oper} {rest : List Oper} {o : Oper} {a : Act} {w : World} {Q : Exit → Act → World → Prop}
theorem run_append_roomt (t ty e : TypeId) (i : TypeInfo) (ht : P.underlying t = some (.slice e)) (hi : P.info? e = some i)
    (g off sLen sCap : Nat) (cur : Array Value) (hg : w.heap[g]? = some (.cells cur e (0, 0)))
    (a : Addr) (m c : Nat) (news : List Value) (hl : news.length = m * i.size) (hnews : ∀ j u, news[j]? = some u → w.cell? (a.add j) = some u) (h1 : ∀ u ∈ news, u.oneCell' = true)
    (hroom : sLen + m ≤ sCap) (hfit : off + sLen * i.size + news.length ≤ cur.size) :
    (Builtin.append_ #[t, t] ty #[.slice (some ⟨g, off, none⟩) sLen sCap, .slice (some a) m c]).run P w =
      .ok (.slice (some ⟨g, off, none⟩) (sLen + m) sCap) (w.setRow g (cur.toList.take (off + sLen * i.size) ++ news ++ cur.toList.drop (off + sLen * i.size + news.length)).toArray) := by
  have hf := run_firstCells_some (P := P) w i.size m a m c news hl hnews
  have hst := run_storeCells_at P g (off + sLen * i.size) e news 0 cur w hg (by simpa using hfit) h1
  simp only [Nat.add_zero] at hst
  simp [Builtin.append_, run_underlying ht, sizeOf, typeInfo, hi, Builtin.lenOf, hroom, hf, Addr.add_lit, hst]
/-- what an append leaves -/
def AppT (w : World) (base : Nat) (e : TypeId) (size n : Nat) (xs : List Value) (As : Option Addr) (v : Value) (w' : World) : Prop :=
  ∃ A' cap', v = .slice A' n cap' ∧ 0 < cap' ∧ Tail w' base e size A' n cap' xs ∧ Below base w w' ∧ Apart w w' As A'
theorem run_append_tail (s x : Operand) (t : TypeId) (ho : o.op = .call { callee := .builtin .append, args := #[s, x], argTypes := #[t, t] })
    (base : Nat) (e : TypeId) {z : Value} {size bytes : Nat} (ht : P.underlying t = some (.slice e)) (hinfo : (P.info? e).map (fun i => (i.zero, i.size, i.bytes)) = some (some z, size, bytes))
    (hzs : z.cells.size = size) (hsz : 0 < size) {As : Option Addr} {n cs : Nat} {xs : List Value} (hs : a.eval s = .slice As n cs) (hown : Tail w base e size As n cs xs)
    {A : Option Addr} {m c : Nat} {news : List Value} (hx : a.eval x = .slice A m c) (hr : Sl w size A m c news) (h1 : ∀ u ∈ news, u.oneCell' = true) (hm : 0 < m)
    (h63 : n + m ≤ 1000000000000) (hbyt : bytes ≤ 64) (hbase : base ≤ w.heap.size) :
    ∃ v w', (execOp a.eval o).run P w = .ok (.value v) w' ∧ AppT w base e size (n + m) (xs ++ news) As v w' := by
  obtain ⟨i, hi, hz, hsize, hby⟩ := info_parts hinfo
  obtain ⟨b', off', rfl, hlt, hc⟩ := hr.cells hm
  have hc' : ∀ j u, news[j]? = some u → w.cell? ((⟨b', off', none⟩ : Addr).add j) = some u := fun j u hu => by rw [Addr.add_lit]; exact hc j u hu
  have hmx : n + m ≤ maxLen := by simp only [maxLen]; omega
  have hbb : (n + m) * bytes ≤ 140737488355328 := by have : (n + m) * bytes ≤ 1000000000000 * 64 := Nat.mul_le_mul h63 hbyt; omega
  -- a new row
  have fresh : ∀ (v' : Value) (w' : World), (Builtin.append_ #[t, t] o.type #[.slice As n cs, .slice (some ⟨b', off', none⟩) m c]).run P w = .ok v' w' → w'.ownsRow w.heap.size e size v' (n + m) (xs ++ news) → w.grownBy w' none →
      ∃ v w', (execOp a.eval o).run P w = .ok (.value v) w' ∧ AppT w base e size (n + m) (xs ++ news) As v w' := by
    intro v' w' hrun g1 g2
    refine ⟨v', w', by simp only [execOp, ho, resolve, invoke, builtin, Sem.run_bind, Sem.run_pure, Result.andThen_ok, List.map_toArray, List.map_cons, List.map_nil, hs, hx, hrun], ?_⟩
    obtain ⟨A', cap', rfl, hsl⟩ := Sl.of_own g1 hsz
    have := hsl.hcap
    exact ⟨A', cap', rfl, by omega, (Tail.own g1).lower hbase, (Below.refl base w).grown g2 hbase (fun q hq => by cases hq), ⟨g2.size, fun g hg _ => g2.block g hg (by simp), fun a' ha' => ⟨(Own0.lt g1 a' ha').2, .inr (Own0.lt g1 a' ha').1⟩⟩⟩
  rcases hown.form with h0 | ⟨g, off, cur, rfl, hbg, hg, hsc, htk⟩
  · have hn : n = 0 := by have := hown.hcap; omega
    subst hn
    subst h0
    have hx0 : xs = [] := List.eq_nil_of_length_eq_zero (by simpa using hown.len)
    subst hx0
    cases As with
    | none =>
      obtain ⟨v', w', hrun, h2, h3, h4⟩ := run_append_sl (P := P) w.heap.size t o.type e i z size bytes ht hi hz hsize hby hzs hsz _ 0 [] (World.ownsRow_nil w w.heap.size e size) (some ⟨b', off', none⟩) m c news hr h1 hmx hbb (Nat.le_refl _)
      exact fresh v' w' hrun h2 (by simpa [Value.ownBlock] using h3)
    | some b =>
      obtain ⟨v', w', hrun, h2, h3⟩ := run_append_arg_grows (P := P) w t o.type e i z size bytes ht hi hz hsize hby hzs hsz b 0 0 [] (by simp) (by simp) ⟨b', off', none⟩ m c news hr.len hc' (by omega) hmx hbb
      exact fresh v' w' hrun h2 h3
  · by_cases hroom : n + m ≤ cs
    · have hfit : off + n * i.size + news.length ≤ cur.size := by
        rw [hsize, hr.len, Nat.add_assoc, ← Nat.add_mul]
        exact Nat.le_trans (Nat.add_le_add_left (Nat.mul_le_mul_right _ hroom) _) hsc
      have hrun := run_append_roomt (P := P) (w := w) t o.type e i ht hi g off n cs cur hg ⟨b', off', none⟩ m c news (by rw [hsize]; exact hr.len) hc' h1 hroom hfit
      rw [hsize] at hrun hfit
      have hrun2 : (execOp a.eval o).run P w = .ok (.value (.slice (some ⟨g, off, none⟩) (n + m) cs)) (w.setRow g (cur.toList.take (off + n * size) ++ news ++ cur.toList.drop (off + n * size + news.length)).toArray) := by
        simp only [execOp, ho, resolve, invoke, builtin, Sem.run_bind, Sem.run_pure, Result.andThen_ok, List.map_toArray, List.map_cons, List.map_nil, hs, hx, hrun]
      refine ⟨_, _, hrun2, _, cs, rfl, by omega, ⟨?_, hroom, hown.hmax, .inr ⟨g, off, _, rfl, hbg, setRow_heap w g cur _ e _ hg, ?_, ?_⟩⟩, (Below.refl base w).grown (row := some g) ⟨rfl, rfl, rfl, by simp, fun k _ hk => setRow_other w g k _ (fun e => hk (by rw [e]))⟩ hbase (fun q hq => by cases hq; exact hbg), ⟨by simp, fun k hk hne => setRow_other w g k _ (fun e => hne _ rfl (by simp [e])), fun a' ha' => ?_⟩⟩
      · rw [List.length_append, hown.len, hr.len, Nat.add_mul]
      · simp only [List.size_toArray, List.length_append, List.length_take, List.length_drop, Array.length_toList]
        omega
      · have hl1 : off ≤ cur.size := by omega
        have e1 : cur.toList.take (off + n * size) = cur.toList.take off ++ xs := by rw [List.take_add, htk]
        rw [List.toList_toArray, List.append_assoc, e1, List.append_assoc, List.drop_append_of_le_length (by rw [List.length_take]; simp; omega), List.drop_of_length_le (by rw [List.length_take]; omega), List.nil_append, ← List.append_assoc]
        have e2 : (n + m) * size = (xs ++ news).length := by rw [List.length_append, hown.len, hr.len, Nat.add_mul]
        rw [e2]
        exact List.take_left
      · injection ha' with ha'
        subst ha'
        exact ⟨by simpa using (Array.getElem?_eq_some_iff.1 hg).1, .inl ⟨_, rfl, rfl⟩⟩
    · have holds : ∀ j u, xs[j]? = some u → w.cell? ((⟨g, off, none⟩ : Addr).add j) = some u := fun j u hu => by
        obtain ⟨b2, off2, he, _, hcc⟩ := (hown.sl hsz).cells (by
          rcases Nat.eq_zero_or_pos n with hn | hn
          · subst hn
            have : xs = [] := List.eq_nil_of_length_eq_zero (by simpa using hown.len)
            subst this
            simp at hu
          · exact hn)
        injection he with he
        injection he with h1 h2
        subst h1 h2
        rw [Addr.add_lit]
        exact hcc j u hu
      obtain ⟨v', w', hrun, h2, h3⟩ := run_append_arg_grows (P := P) w t o.type e i z size bytes ht hi hz hsize hby hzs hsz ⟨g, off, none⟩ n cs xs hown.len holds ⟨b', off', none⟩ m c news hr.len hc' (by omega) hmx hbb
      exact fresh v' w' hrun h2 h3
/-- 'append(s, x...)' at the operation -/
theorem wpList_append_tail (hw : Region.wanted o (yielded ops a.tmps) = true) (s x : Operand) (t : TypeId) (ho : o.op = .call { callee := .builtin .append, args := #[s, x], argTypes := #[t, t] })
    (base : Nat) (e : TypeId) {z : Value} {size bytes : Nat} (ht : P.underlying t = some (.slice e)) (hinfo : (P.info? e).map (fun i => (i.zero, i.size, i.bytes)) = some (some z, size, bytes))
    (hzs : z.cells.size = size) (hsz : 0 < size) {As : Option Addr} {n cs : Nat} {xs : List Value} (hs : a.eval s = .slice As n cs) (hown : Tail w base e size As n cs xs)
    {A : Option Addr} {m c : Nat} {news : List Value} (hx : a.eval x = .slice A m c) (hr : Sl w size A m c news) (h1 : ∀ u ∈ news, u.oneCell' = true) (hm : 0 < m)
    (h63 : n + m ≤ 1000000000000) (hbyt : bytes ≤ 64) (hbase : base ≤ w.heap.size)
    (k : ∀ A' cap' w', 0 < cap' → Tail w' base e size A' (n + m) cap' (xs ++ news) → Below base w w' → Apart w w' As A' → wpList P ops Q rest (a.put o.dst (.slice A' (n + m) cap')) w') :
    wpList P ops Q (o :: rest) a w :=
  wpList_run hw (run_append_tail s x t ho base e ht hinfo hzs hsz hs hown hx hr h1 hm h63 hbyt hbase) fun v w' ⟨A', cap', hv, h0, h2, h3, h4⟩ => by
    subst hv
    exact k A' cap' w' h0 h2 h3 h4
theorem step_append_tail {K : Act → World → Prop} {E : Prop} (hw : Region.wanted o (yielded ops a.tmps) = true) (s x : Operand) (t : TypeId) (ho : o.op = .call { callee := .builtin .append, args := #[s, x], argTypes := #[t, t] })
    (base : Nat) (e : TypeId) {z : Value} {size bytes : Nat} (ht : P.underlying t = some (.slice e)) (hinfo : (P.info? e).map (fun i => (i.zero, i.size, i.bytes)) = some (some z, size, bytes))
    (hzs : z.cells.size = size) (hsz : 0 < size) {As : Option Addr} {n cs : Nat} {xs : List Value} (hs : a.eval s = .slice As n cs) (hown : Tail w base e size As n cs xs)
    {A : Option Addr} {m c : Nat} {news : List Value} (hx : a.eval x = .slice A m c) (hr : Sl w size A m c news) (h1 : ∀ u ∈ news, u.oneCell' = true) (hm : 0 < m)
    (h63 : n + m ≤ 1000000000000) (hbyt : bytes ≤ 64) (hbase : base ≤ w.heap.size)
    (k : ∀ A' cap' w', 0 < cap' → Tail w' base e size A' (n + m) cap' (xs ++ news) → Below base w w' → Apart w w' As A' → K (a.put o.dst (.slice A' (n + m) cap')) w') :
    if Region.wanted o (yielded ops a.tmps) = true then o.wp P a w K Q else E :=
  step_of_runA hw (run_append_tail s x t ho base e ht hinfo hzs hsz hs hown hx hr h1 hm h63 hbyt hbase) fun v w' ⟨A', cap', hv, h0, h2, h3, h4⟩ => by
    subst hv
    exact k A' cap' w' h0 h2 h3 h4
end
/-- .. of elements -/
structure TailG {α : Type} (R : World → α → List Value → Prop) (k : Nat) (w : World) (base : Nat) (e : TypeId) (A : Option Addr) (n cap : Nat) (xs : List α) : Prop where
  len : xs.length = n
  rows : ∃ vs : List (List Value), vs.length = xs.length ∧ (∀ v ∈ vs, v.length = k) ∧ Tail w base e k A n cap vs.flatten ∧ ∀ (i : Nat) (x : α) (v : List Value), xs[i]? = some x → vs[i]? = some v → R w x v
section
variable {α : Type} {R : World → α → List Value → Prop} {k : Nat} {w w' : World} {base : Nat} {e : TypeId} {A : Option Addr} {n cap : Nat} {xs : List α}
theorem TailG.nil (w : World) (base : Nat) (e : TypeId) (A : Option Addr) : TailG R k w base e A 0 0 [] := ⟨rfl, [], rfl, by simp, Tail.nil w base e k A, by simp⟩
theorem TailG.is (h : TailG R k w base e A n cap xs) (hk : 0 < k) : IsG R k w A n cap xs := by
  obtain ⟨vs, h1, h2, h3, h4⟩ := h.rows
  exact ⟨h.len, vs, h1, h2, h3.sl hk, h4⟩
theorem TailG.below (hR : Keeps R) (h : TailG R k w base e A n cap xs) (hb : Below w.heap.size w w') : TailG R k w' base e A n cap xs := by
  obtain ⟨vs, h1, h2, h3, h4⟩ := h.rows
  exact ⟨h.len, vs, h1, h2, h3.below hb, fun i x v hx hv => hR _ _ _ _ (h4 i x v hx hv) hb⟩
theorem TailG.at_ (hR : ∀ w w' x v, R w x v → R w' x v) (h : TailG R k w base e A n cap xs) (hk : ∀ a, A = some a → w'.heap[a.block]? = w.heap[a.block]?) : TailG R k w' base e A n cap xs := by
  obtain ⟨vs, h1, h2, h3, h4⟩ := h.rows
  exact ⟨h.len, vs, h1, h2, h3.at_ hk, fun i x v hx hv => hR _ _ _ _ (h4 i x v hx hv)⟩
theorem TailG.cut1 {x : α} (h : TailG R k w base e A n cap (x :: xs)) : TailG R k w base e (if cap = 1 then A else A.map (·.add (1 * k))) (n - 1) (cap - 1) xs := by
  obtain ⟨vs, h1, h2, h3, h4⟩ := h.rows
  have hl := h.len
  match vs, h1 with
  | v :: vs, h1 =>
    have hv := h2 v (by simp)
    refine ⟨by simp at hl; omega, vs, by simpa using h1, fun u hu => h2 u (by simp [hu]), ?_, fun i y u hy hu => h4 (i + 1) y u (by simpa using hy) (by simpa using hu)⟩
    have := h3.cut1 (by simp at hl; omega)
    rwa [List.flatten_cons, List.drop_append, hv, List.drop_of_length_le (by omega), List.nil_append, Nat.sub_self, List.drop_zero] at this
/-- one more: what 'append' leaves -/
theorem TailG.snoc {w2 : World} {A' : Option Addr} {cap' : Nat} {x : α} {u : List Value} {vs : List (List Value)}
    (ht : Tail w2 base e k A' (n + 1) cap' (vs.flatten ++ u)) (hl : xs.length = n) (h1 : vs.length = xs.length) (h2 : ∀ v ∈ vs, v.length = k) (hu : u.length = k)
    (h4 : ∀ (i : Nat) (x : α) (v : List Value), xs[i]? = some x → vs[i]? = some v → R w2 x v) (hx : R w2 x u) : TailG R k w2 base e A' (n + 1) cap' (xs ++ [x]) := by
  refine ⟨by simp [hl], vs ++ [u], by simp [h1], ?_, by simpa using ht, ?_⟩
  · intro v hv
    rcases List.mem_append.1 hv with hv | hv
    · exact h2 v hv
    · simp at hv; subst hv; exact hu
  · intro i y v hy hv
    rw [List.getElem?_append] at hy hv
    split at hy
    · rename_i hi
      rw [if_pos (by omega)] at hv
      exact h4 i y v hy hv
    · rename_i hi
      rw [if_neg (by omega)] at hv
      have e : i - xs.length = 0 := by
        have := (List.getElem?_eq_some_iff.1 hy).1
        simp at this
        omega
      have e' : i - vs.length = 0 := by omega
      rw [e] at hy
      rw [e'] at hv
      simp at hy hv
      subst hy hv
      exact hx
end
end Go.Proofs.Ytdeaeiolehglaaa

/- Plain laws on shifted and numbered terms. No program in sight. -/
namespace Go.Proofs.Ytdeaeiolehglaaa
open Go.RowKit

def okV (v : Int) (l : List Int) : Bool := l.all fun x => decide (0 ≤ x + v) && decide (x + v ≤ 999)
theorem okV_iff (v : Int) (l : List Int) : okV v l = true ↔ ∀ x ∈ l, 0 ≤ x + v ∧ x + v ≤ 999 := by simp [okV]
theorem okV_snoc (v : Int) (l : List Int) (x : Int) : okV v (l ++ [x]) = (okV v l && (decide (0 ≤ x + v) && decide (x + v ≤ 999))) := by simp [okV]
theorem okV_take (v : Int) {l : List Int} {k : Nat} {x : Int} (h : l[k]? = some x) : okV v (l.take (k + 1)) = (okV v (l.take k) && (decide (0 ≤ x + v) && decide (x + v ≤ 999))) := by
  obtain ⟨hl, he⟩ := List.getElem?_eq_some_iff.1 h
  rw [List.take_succ_eq_append_getElem hl, he, okV_snoc]
theorem wrap_small {x v : Int} (hx : 0 ≤ x ∧ x ≤ 999) (hv : -100000 ≤ v ∧ v ≤ 100000) : wrap64 (x + v) = x + v := by unfold wrap64; omega
theorem vars_range {t : List C} (h : rightB t = true) : ∀ x ∈ varsF t, 0 ≤ x ∧ x ≤ 999 := by
  intro x hx
  obtain ⟨c, hc, hk, rfl⟩ := mem_vars.1 hx
  exact right_var h c hc hk
theorem shift_no {t : List C} {v : Int} (h : rightB t = true) (hv : -100000 ≤ v ∧ v ≤ 100000) (ho : okV v (varsF t) = false) : shiftF t v = [] := by
  unfold shiftF
  split
  · rename_i hr
    exfalso
    rw [← Bool.not_eq_true, okV_iff] at ho
    refine ho fun x hx => ?_
    obtain ⟨c, hc, hk, rfl⟩ := mem_vars.1 hx
    have h1 : 0 ≤ wrap64 (c.n + v) ∧ wrap64 (c.n + v) ≤ 999 := turn_back hr c hc hk
    rwa [wrap_small (right_var h c hc hk) hv] at h1
  · rfl
theorem shift_at {t : List C} {v : Int} (h : rightB t = true) (hv : -100000 ≤ v ∧ v ≤ 100000) (ho : okV v (varsF t) = true) :
    ∀ c ∈ t, c.kind = 1 → wrap64 (c.n + v) = c.n + v ∧ 0 ≤ c.n + v ∧ c.n + v ≤ 999 := by
  intro c hc hk
  exact ⟨wrap_small (right_var h c hc hk) hv, (okV_iff _ _).1 ho _ (mem_vars.2 ⟨c, hc, hk, rfl⟩)⟩
theorem shift_is {t : List C} {v : Int} (h : rightB t = true) (hv : -100000 ≤ v ∧ v ≤ 100000) (ho : okV v (varsF t) = true) :
    shiftF t v = turnF (fun x => x + v) t ∧ rightB (shiftF t v) = true := by
  have h1 := shift_at h hv ho
  have e : turnF (fun n => wrap64 (n + v)) t = turnF (fun x => x + v) t := turn_congr fun c hc hk => (h1 c hc hk).1
  have h2 : rightB (turnF (fun x => x + v) t) = true := turn_right h fun c hc hk => (h1 c hc hk).2
  unfold shiftF
  rw [e, if_pos h2]
  exact ⟨rfl, h2⟩
theorem shift_facts {t : List C} {v : Int} (h : rightB t = true) (hv : -100000 ≤ v ∧ v ≤ 100000) (ho : okV v (varsF t) = true) :
    rightB (shiftF t v) = true ∧ depthF (shiftF t v) = depthF t ∧ varsF (shiftF t v) = (varsF t).map (fun x => x + v) ∧ (shiftF t v).length = t.length ∧ shiftF (shiftF t v) (-v) = t := by
  obtain ⟨e, hr⟩ := shift_is h hv ho
  have h1 := shift_at h hv ho
  have hvars : varsF (shiftF t v) = (varsF t).map (fun x => x + v) := by
    rw [e]
    exact varsF_turn (P := fun _ => True) (fun x y _ _ he => by simpa using he) t (fun _ _ _ => trivial)
  refine ⟨hr, by rw [e]; exact depth_turn h fun c hc hk => (h1 c hc hk).2, hvars, by rw [e, turn_len], ?_⟩
  have ho2 : okV (-v) (varsF (shiftF t v)) = true := by
    rw [okV_iff, hvars]
    intro x hx
    obtain ⟨y, hy, rfl⟩ := List.mem_map.1 hx
    have := vars_range h y hy
    show 0 ≤ y + v + -v ∧ y + v + -v ≤ 999
    omega
  rw [(shift_is hr (by omega) ho2).1, e, turn_turn]
  exact turn_id fun c _ _ => by show c.n + v + -v = c.n; omega
theorem shift_zero {t : List C} (h : rightB t = true) : shiftF t 0 = t := by
  have ho : okV 0 (varsF t) = true := by
    rw [okV_iff]
    intro x hx
    have := vars_range h x hx
    omega
  rw [(shift_is h (by omega) ho).1]
  exact turn_id fun c _ _ => by show c.n + 0 = c.n; omega

theorem varsA_le : ∀ (cs : List C) (acc : List Int), (varsA acc cs).length ≤ acc.length + cs.length
  | [], acc => by simp [varsA_nil]
  | c :: cs, acc => by
    rw [varsA_step]
    split
    · have := varsA_le cs (acc ++ [c.n]); simp at this ⊢; omega
    · have := varsA_le cs acc; simp; omega
theorem place_at {t : List C} (h : rightB t = true) : ∀ c ∈ t, c.kind = 1 → 0 ≤ placeI (varsF t) c.n ∧ placeI (varsF t) c.n ≤ 999 := by
  intro c hc hk
  have h1 := place_range (varsF_nodup t) (mem_vars.2 ⟨c, hc, hk, rfl⟩)
  have h2 := varsA_le t []
  have h3 := ((right_iff _).1 h).2
  have h4 : (varsF t).length = (varsA [] t).length := rfl
  simp at h2
  omega
theorem number_facts {t : List C} (h : rightB t = true) :
    rightB (numberF t) = true ∧ (numberF t).length = t.length ∧ varsF (numberF t) = (List.range (varsF t).length).map Int.ofNat ∧ numberF (numberF t) = numberF t := by
  have hr : rightB (numberF t) = true := turn_right h (place_at h)
  have hv : varsF (numberF t) = (List.range (varsF t).length).map Int.ofNat := by
    rw [← map_place (varsF_nodup t)]
    exact varsF_turn (P := fun x => x ∈ varsF t) (place_inj (varsF_nodup t)) t (fun c hc hk => mem_vars.2 ⟨c, hc, hk, rfl⟩)
  refine ⟨hr, turn_len _ _, hv, ?_⟩
  have hn := varsF_nodup (numberF t)
  show turnF (placeI (varsF (numberF t))) (numberF t) = numberF t
  refine turn_id fun c hc hk => ?_
  have hm : c.n ∈ varsF (numberF t) := mem_vars.2 ⟨c, hc, hk, rfl⟩
  have hm2 := hm
  rw [hv] at hm2
  obtain ⟨j, hj, hjc⟩ := List.mem_map.1 hm2
  have hjl := List.mem_range.1 hj
  rw [← hjc]
  refine place_get hn ?_
  rw [hv, List.getElem?_map, List.getElem?_range hjl]
  rfl
theorem turnC_inj {f : Int → Int} {t : List C} (hf : ∀ x y, x ∈ varsF t → y ∈ varsF t → f x = f y → x = y) {a b : C} (ha : a ∈ t) (hb : b ∈ t) : turnC f a = turnC f b ↔ a = b := by
  constructor
  · intro h
    have hk : a.kind = b.kind := by rw [← turnC_kind f a, ← turnC_kind f b, h]
    by_cases h1 : a.kind = 1
    · have h2 : b.kind = 1 := by omega
      rw [turnC_var h1, turnC_var h2] at h
      obtain ⟨k, s, x⟩ := a
      obtain ⟨k', s', x'⟩ := b
      simp only [C.mk.injEq] at h ⊢
      exact ⟨h.1, h.2.1, hf x x' (mem_vars.2 ⟨_, ha, h1, rfl⟩) (mem_vars.2 ⟨_, hb, h2, rfl⟩) h.2.2⟩
    · rwa [turnC_other h1, turnC_other (by omega)] at h
  · rintro rfl; rfl
theorem number_cell {t : List C} {i : Nat} {a : C} (ha : t[i]? = some a) : (numberF t)[i]? = some (turnC (placeI (varsF t)) a) := by
  show (turnF (placeI (varsF t)) t)[i]? = _
  rw [turnF_map, List.getElem?_map, ha]
  rfl
theorem number_beq {t : List C} {i k : Nat} {a b : C} (ha : t[i]? = some a) (hb : t[k]? = some b) : (turnC (placeI (varsF t)) a).beq (turnC (placeI (varsF t)) b) = a.beq b := by
  rw [Bool.eq_iff_iff, beq_iff, beq_iff]
  exact turnC_inj (place_inj (varsF_nodup t)) (List.mem_of_getElem? ha) (List.mem_of_getElem? hb)
theorem idx_map (v : Int) (l : List Int) (x : Int) : ∀ k, idxF (fun y => y == x + v) k (l.map fun y => y + v) = idxF (fun y => y == x) k l := by
  induction l with
  | nil => intro k; rfl
  | cons y l ih =>
    intro k
    have e : (y + v == x + v) = (y == x) := by rw [Bool.eq_iff_iff]; simp
    simp only [List.map_cons, idxF, e]
    rw [ih]
theorem number_shift {t : List C} {v : Int} (h : rightB t = true) (hv : -100000 ≤ v ∧ v ≤ 100000) (ho : okV v (varsF t) = true) : numberF (shiftF t v) = numberF t := by
  have e := (shift_is h hv ho).1
  have hvars := (shift_facts h hv ho).2.2.1
  show turnF (placeI (varsF (shiftF t v))) (shiftF t v) = turnF (placeI (varsF t)) t
  rw [hvars, e, turn_turn]
  exact turn_congr fun c _ _ => idx_map v (varsF t) c.n 0
end Go.Proofs.Ytdeaeiolehglaaa

/- 'append' of so many elements, none too. No program in sight. -/
namespace Go.Proofs.Ytdeaeiolehglaaa
open Go.RowKit

section
variable {P : Program} {ops : Array Oper} {rest : List Oper} {o : Oper} {a : Act} {w : World} {Q : Exit → Act → World → Prop}
theorem run_append_zero (t ty e : TypeId) (i : TypeInfo) (ht : P.underlying t = some (.slice e)) (hi : P.info? e = some i) (As A : Option Addr) (n cs c : Nat) (hn : n ≤ cs) (h0 : As = none → n = 0 ∧ cs = 0) :
    (Builtin.append_ #[t, t] ty #[.slice As n cs, .slice A 0 c]).run P w = .ok (.slice As n cs) w := by
  cases As with
  | none =>
    obtain ⟨rfl, rfl⟩ := h0 rfl
    cases A <;> simp [Builtin.append_, run_underlying ht, sizeOf, typeInfo, hi, Builtin.lenOf, Builtin.firstCells, loadCells, loadCellsFrom]
  | some b =>
    cases A <;> simp [Builtin.append_, run_underlying ht, sizeOf, typeInfo, hi, Builtin.lenOf, Builtin.firstCells, loadCells, loadCellsFrom, hn, storeCells]
/-- what an append leaves -/
def AppZ (w : World) (base : Nat) (e : TypeId) (size n : Nat) (xs : List Value) (As : Option Addr) (v : Value) (w' : World) : Prop :=
  ∃ A' cap', v = .slice A' n cap' ∧ Tail w' base e size A' n cap' xs ∧ Below base w w' ∧ Apart w w' As A'
theorem run_append_any (s x : Operand) (t : TypeId) (ho : o.op = .call { callee := .builtin .append, args := #[s, x], argTypes := #[t, t] })
    (base : Nat) (e : TypeId) {z : Value} {size bytes : Nat} (ht : P.underlying t = some (.slice e)) (hinfo : (P.info? e).map (fun i => (i.zero, i.size, i.bytes)) = some (some z, size, bytes))
    (hzs : z.cells.size = size) (hsz : 0 < size) {As : Option Addr} {n cs : Nat} {xs : List Value} (hs : a.eval s = .slice As n cs) (hown : Tail w base e size As n cs xs) (hAs : ∀ b, As = some b → b.block < w.heap.size)
    {A : Option Addr} {m c : Nat} {news : List Value} (hx : a.eval x = .slice A m c) (hr : Sl w size A m c news) (h1 : ∀ u ∈ news, u.oneCell' = true)
    (h63 : n + m ≤ 1000000000000) (hbyt : bytes ≤ 64) (hbase : base ≤ w.heap.size) (h0 : As = none → cs = 0) :
    ∃ v w', (execOp a.eval o).run P w = .ok (.value v) w' ∧ AppZ w base e size (n + m) (xs ++ news) As v w' := by
  rcases Nat.eq_zero_or_pos m with hm | hm
  · subst hm
    obtain ⟨i, hi, hz, hsize, hby⟩ := info_parts hinfo
    have hn0 : news = [] := List.eq_nil_of_length_eq_zero (by simpa using hr.len)
    subst hn0
    have hrun := run_append_zero (P := P) (w := w) t o.type e i ht hi As A n cs c hown.hcap (fun h => ⟨by have := h0 h; have := hown.hcap; omega, h0 h⟩)
    refine ⟨.slice As n cs, w, by simp only [execOp, ho, resolve, invoke, builtin, Sem.run_bind, Sem.run_pure, Result.andThen_ok, List.map_toArray, List.map_cons, List.map_nil, hs, hx, hrun], As, cs, rfl, by simpa using hown, Below.refl _ _, ⟨Nat.le_refl _, fun _ _ _ => rfl, fun a ha => ⟨hAs a ha, .inl ⟨a, ha, rfl⟩⟩⟩⟩
  · obtain ⟨v, w', h2, A', cap', h3, _, h5⟩ := run_append_tail s x t ho base e ht hinfo hzs hsz hs hown hx hr h1 hm h63 hbyt hbase
    exact ⟨v, w', h2, A', cap', h3, h5⟩
theorem wpList_append_any (hw : Region.wanted o (yielded ops a.tmps) = true) (s x : Operand) (t : TypeId) (ho : o.op = .call { callee := .builtin .append, args := #[s, x], argTypes := #[t, t] })
    (base : Nat) (e : TypeId) {z : Value} {size bytes : Nat} (ht : P.underlying t = some (.slice e)) (hinfo : (P.info? e).map (fun i => (i.zero, i.size, i.bytes)) = some (some z, size, bytes))
    (hzs : z.cells.size = size) (hsz : 0 < size) {As : Option Addr} {n cs : Nat} {xs : List Value} (hs : a.eval s = .slice As n cs) (hown : Tail w base e size As n cs xs) (hAs : ∀ b, As = some b → b.block < w.heap.size)
    {A : Option Addr} {m c : Nat} {news : List Value} (hx : a.eval x = .slice A m c) (hr : Sl w size A m c news) (h1 : ∀ u ∈ news, u.oneCell' = true)
    (h63 : n + m ≤ 1000000000000) (hbyt : bytes ≤ 64) (hbase : base ≤ w.heap.size) (h0 : As = none → cs = 0)
    (k : ∀ A' cap' w', Tail w' base e size A' (n + m) cap' (xs ++ news) → Below base w w' → Apart w w' As A' → wpList P ops Q rest (a.put o.dst (.slice A' (n + m) cap')) w') :
    wpList P ops Q (o :: rest) a w :=
  wpList_run hw (run_append_any s x t ho base e ht hinfo hzs hsz hs hown hAs hx hr h1 h63 hbyt hbase h0) fun v w' ⟨A', cap', hv, h2, h3, h4⟩ => by
    subst hv
    exact k A' cap' w' h2 h3 h4
theorem step_append_any {K : Act → World → Prop} {E : Prop} (hw : Region.wanted o (yielded ops a.tmps) = true) (s x : Operand) (t : TypeId) (ho : o.op = .call { callee := .builtin .append, args := #[s, x], argTypes := #[t, t] })
    (base : Nat) (e : TypeId) {z : Value} {size bytes : Nat} (ht : P.underlying t = some (.slice e)) (hinfo : (P.info? e).map (fun i => (i.zero, i.size, i.bytes)) = some (some z, size, bytes))
    (hzs : z.cells.size = size) (hsz : 0 < size) {As : Option Addr} {n cs : Nat} {xs : List Value} (hs : a.eval s = .slice As n cs) (hown : Tail w base e size As n cs xs) (hAs : ∀ b, As = some b → b.block < w.heap.size)
    {A : Option Addr} {m c : Nat} {news : List Value} (hx : a.eval x = .slice A m c) (hr : Sl w size A m c news) (h1 : ∀ u ∈ news, u.oneCell' = true)
    (h63 : n + m ≤ 1000000000000) (hbyt : bytes ≤ 64) (hbase : base ≤ w.heap.size) (h0 : As = none → cs = 0)
    (k : ∀ A' cap' w', Tail w' base e size A' (n + m) cap' (xs ++ news) → Below base w w' → Apart w w' As A' → K (a.put o.dst (.slice A' (n + m) cap')) w') :
    if Region.wanted o (yielded ops a.tmps) = true then o.wp P a w K Q else E :=
  step_of_runA hw (run_append_any s x t ho base e ht hinfo hzs hsz hs hown hAs hx hr h1 h63 hbyt hbase h0) fun v w' ⟨A', cap', hv, h2, h3, h4⟩ => by
    subst hv
    exact k A' cap' w' h2 h3 h4
end
theorem Tail.none_cap {w : World} {base : Nat} {e : TypeId} {size n cap : Nat} {A : Option Addr} {xs : List Value} (h : Tail w base e size A n cap xs) : A = none → cap = 0 := by
  intro hA
  rcases h.form with h0 | ⟨g, off, cur, h1, _⟩
  · exact h0
  · rw [hA] at h1; cases h1
end Go.Proofs.Ytdeaeiolehglaaa

/- Words of memory for layer 10: rows of instructions, states, clauses. -/
namespace Go.Proofs.Ytdeaeiolehglaaa
open Go.RowKit

structure In.wf (i : In) : Prop where
  op : i64 i.op
  x : i64 i.x
  a : i64 i.a
  n : i64 i.n
  name : i.name.size ≤ maxLen
@[reducible] def In.flat (i : In) : List Value := [.int .i64 i.op, .int .i64 i.x, .int .i64 i.a, .string i.name, .int .i64 i.n, .bool i.neg]
def In.val (i : In) : Value := .agg #[.int .i64 i.op, .int .i64 i.x, .int .i64 i.a, .string i.name, .int .i64 i.n, .bool i.neg]
def RIn : World → In → List Value → Prop := fun _ i v => v = i.flat ∧ i.wf
theorem keepsIn : Keeps RIn := fun _ _ _ _ h _ => h
theorem oneIn (i : In) : ∀ u ∈ i.flat, u.oneCell' = true := by
  intro u hu
  simp [In.flat] at hu
  rcases hu with rfl | rfl | rfl | rfl | rfl | rfl <;> rfl
abbrev IsK (w : World) (A : Option Addr) (n cap : Nat) (l : List In) : Prop := IsG RIn 6 w A n cap l
theorem IsK.at' {w : World} {A : Option Addr} {n cap : Nat} {l : List In} (h : IsK w A n cap l) {k : Nat} {i : In} (hk : l[k]? = some i) :
    ∃ b off, A = some ⟨b, off, none⟩ ∧ b < w.heap.size ∧ i.wf ∧ w.cell? ⟨b, off + k * 6, none⟩ = some (.int .i64 i.op) ∧ w.cell? ⟨b, off + k * 6 + 1, none⟩ = some (.int .i64 i.x) ∧ w.cell? ⟨b, off + k * 6 + 2, none⟩ = some (.int .i64 i.a) ∧
      w.cell? ⟨b, off + k * 6 + 3, none⟩ = some (.string i.name) ∧ w.cell? ⟨b, off + k * 6 + 4, none⟩ = some (.int .i64 i.n) ∧ w.cell? ⟨b, off + k * 6 + 5, none⟩ = some (.bool i.neg) := by
  obtain ⟨b, off, v, hA, hb, _, ⟨rfl, hw⟩, hc⟩ := h.at_ hk
  exact ⟨b, off, hA, hb, hw, hc 0 _ rfl, hc 1 _ rfl, hc 2 _ rfl, hc 3 _ rfl, hc 4 _ rfl, hc 5 _ rfl⟩

/-- an argument in the row: a term, and its register -/
def RArg : World → Tm × Int → List Value → Prop := fun w p v => ∃ A n c, v = [.slice A n c, .int .i64 p.2] ∧ IsC w A n c p.1.flat ∧ i64 p.2
theorem keepsArg : Keeps RArg := fun _ _ _ _ ⟨A, n, c, h1, h2, h3⟩ hb => ⟨A, n, c, h1, h2.below hb, h3⟩
/-- a literal -/
def RLit : World → Bool × List C → List Value → Prop := fun w p v => ∃ A n c, v = [.bool p.1, .slice A n c] ∧ IsC w A n c p.2
theorem keepsLit : Keeps RLit := fun _ _ _ _ ⟨A, n, c, h1, h2⟩ hb => ⟨A, n, c, h1, h2.below hb⟩
abbrev IsLs (w : World) (A : Option Addr) (n cap : Nat) (l : List (Bool × List C)) : Prop := IsG RLit 2 w A n cap l

/-- a state by value -/
structure IsSt (w : World) (v : Value) (s : St) : Prop where
  val : ∃ A n c B m d D p e, v = .agg #[.slice A n c, .int .i64 s.next, .slice B m d, .slice D p e] ∧ IsK w A n c s.code ∧ IsI w B m d s.vars ∧ IsI w D p e s.regs
theorem IsSt.below {w w' : World} {v : Value} {s : St} (h : IsSt w v s) (hb : Below w.heap.size w w') : IsSt w' v s := by
  obtain ⟨A, n, c, B, m, d, D, p, e, h1, h2, h3, h4⟩ := h.val
  exact ⟨A, n, c, B, m, d, D, p, e, h1, h2.below keepsIn hb, h3.below hb, h4.below hb⟩
/-- how great a state may be -/
structure St.fit (s : St) (N : Nat) : Prop where
  code : s.code.length ≤ N
  next : s.next ≤ N
  vars : s.vars.length ≤ N
  same : s.regs.length = s.vars.length
  wf : ∀ i ∈ s.code, i.wf
  rg : ∀ r ∈ s.regs, 0 ≤ r ∧ r ≤ (N : Int)
  vr : ∀ v ∈ s.vars, i64 v
theorem i64_0 : i64 0 := ⟨by decide, by decide⟩
theorem empty_size : (⟨#[]⟩ : ByteArray).size ≤ maxLen := by decide
theorem wfI {op x a n : Int} {nm : ByteArray} {neg : Bool} (h1 : i64 op) (h2 : i64 x) (h3 : i64 a) (h4 : i64 n) (h5 : nm.size ≤ maxLen) : (⟨op, x, a, nm, n, neg⟩ : In).wf := ⟨h1, h2, h3, h4, h5⟩
structure St.room (s : St) (k : Nat) : Prop where
  code : s.code.length + k ≤ 100000
  next : s.next + k ≤ 100000
  vars : s.vars.length + k ≤ 100000
theorem St.room.le {s : St} {k j : Nat} (h : s.room k) (hj : j ≤ k) : s.room j := ⟨by have := h.code; omega, by have := h.next; omega, by have := h.vars; omega⟩
theorem room_emit {s : St} {k : Nat} (i : In) (h : s.room (k + 1)) : (s.emit i).room k := ⟨by have := h.code; simp [St.emit]; omega, by have := h.next; simp [St.emit]; omega, by have := h.vars; simp [St.emit]; omega⟩
theorem room_bump {s : St} {k : Nat} (h : s.room (k + 1)) : s.bump.room k := ⟨by have := h.code; simp [St.bump]; omega, by have := h.next; simp [St.bump]; omega, by have := h.vars; simp [St.bump]; omega⟩
theorem regF_two (s : St) (v : Int) : regF s v = (s.bump.addv v s.next, (s.next : Int), true) ∨ ∃ r, r ∈ s.regs ∧ regF s v = (s, r, false) := by
  unfold regF
  split
  · rename_i r hr _
    exact .inr ⟨r, List.mem_of_getElem? hr, rfl⟩
  · exact .inl rfl
theorem regF_code (s : St) (v : Int) : (regF s v).1.code = s.code := by
  rcases regF_two s v with h | ⟨r, _, h⟩ <;> rw [h] <;> rfl
/-- a variable, and one instruction -/
theorem room_reg {s : St} {k : Nat} (v : Int) (i : In) (h : s.room (k + 1)) : ((regF s v).1.emit i).room k := by
  have h1 := h.code
  have h2 := h.next
  have h3 := h.vars
  rcases regF_two s v with e | ⟨r, _, e⟩ <;> rw [e]
  · exact ⟨by simp [St.emit, St.addv, St.bump]; omega, by simp [St.emit, St.addv, St.bump]; omega, by simp [St.emit, St.addv, St.bump]; omega⟩
  · exact ⟨by simp [St.emit]; omega, by simp [St.emit]; omega, by simp [St.emit]; omega⟩
/-- .. and one register more, and one instruction -/
theorem room_fresh {s : St} {k : Nat} (i : In) (h : s.room (k + 1)) : (s.emit i).bump.room k :=
  ⟨by have := h.code; simp [St.emit, St.bump]; omega, by have := h.next; simp [St.emit, St.bump]; omega, by have := h.vars; simp [St.emit, St.bump]; omega⟩
theorem room_one {s : St} {k : Nat} (a b c : Int) (T : Tm) (h : s.room (k + 1)) : (oneF a b c s T).room k := by
  cases T with
  | v n => exact room_reg n _ h
  | i n => exact room_emit _ h
  | f s us => exact h.le (by omega)
theorem oneF_code (a b c : Int) (s : St) (T : Tm) : s.code.length ≤ (oneF a b c s T).code.length := by
  cases T with
  | v n => simp [oneF, St.emit, regF_code]
  | i n => simp [oneF, St.emit]
  | f s us => exact Nat.le_refl _
theorem i64_small {n : Int} (h1 : -3000000000 ≤ n) (h2 : n ≤ 3000000000) : i64 n := ⟨by omega, by omega⟩
theorem i64_nat {n : Nat} (h2 : n ≤ 3000000000) : i64 (n : Int) := ⟨by omega, by omega⟩
/-- what a variable's register may be -/
theorem regF_reg {s : St} {N : Nat} (h : s.fit N) (v : Int) (hN : N ≤ 100000) : 0 ≤ (regF s v).2.1 ∧ (regF s v).2.1 ≤ 100000 := by
  rcases regF_two s v with e | ⟨r, hr, e⟩ <;> rw [e]
  · have := h.next; exact ⟨by simp, by simp; omega⟩
  · have := h.rg r hr; exact ⟨this.1, by simp; omega⟩
theorem c0_wf {T : Tm} (h : T.ok = true) : T.c0.wf := by
  cases T with
  | v n => simp [Tm.ok] at h; exact ⟨i64_small (n := 1) (by decide) (by decide), i64_small (n := n) (by omega) (by omega), empty_size⟩
  | i n => simp [Tm.ok] at h; exact ⟨i64_small (n := 2) (by decide) (by decide), i64_small (n := n) (by omega) (by omega), empty_size⟩
  | f s us =>
    simp [Tm.ok, okName] at h
    exact ⟨i64_small (n := 3) (by decide) (by decide), i64_nat (n := us.length) (by omega), by simp [Tm.c0, maxLen]; omega⟩
end Go.Proofs.Ytdeaeiolehglaaa

/- The walks of the maker's small methods: an instruction more, a new register, a variable's register. -/
namespace Go.Proofs.Ytdeaeiolehglaaa
open Go.RowKit

theorem infoIn : (Try.prog.info? 48).map (fun i => (i.zero, i.size, i.bytes)) = some (some (.agg #[.int .i64 0, .int .i64 0, .int .i64 0, .string ⟨#[]⟩, .int .i64 0, .bool false]), 6, 56) := by kernel_rfl

theorem reg_find (v : Int) : ∀ (vars regs : List Int) (k : Nat), regs.length = vars.length →
    (look (List.zipWith (fun v r => (v, Value.int .i64 r)) vars regs) v = none ∧ idxF (fun y => y == v) k vars = -1) ∨
    ∃ (j : Nat) (r : Int), idxF (fun y => y == v) k vars = (k : Int) + j ∧ regs[j]? = some r ∧ look (List.zipWith (fun v r => (v, Value.int .i64 r)) vars regs) v = some (.int .i64 r)
  | [], [], k, _ => .inl ⟨rfl, rfl⟩
  | x :: vars, [], k, h => by simp at h
  | [], r :: regs, k, h => by simp at h
  | x :: vars, r :: regs, k, h => by
    by_cases hx : x = v
    · subst hx
      exact .inr ⟨0, r, by simp [idxF], rfl, by simp [look]⟩
    · rcases reg_find v vars regs (k + 1) (by simpa using h) with ⟨h1, h2⟩ | ⟨j, r', h1, h2, h3⟩
      · exact .inl ⟨by simp [look, hx, h1], by simp [idxF, hx, h2]⟩
      · exact .inr ⟨j + 1, r', by simp [idxF, hx, h1]; omega, by simpa using h2, by simp [look, hx, h3]⟩
def prs (s : St) : List (Int × Value) := List.zipWith (fun v r => (v, Value.int .i64 r)) s.vars s.regs
theorem reg_cases (s : St) (v : Int) (h : s.regs.length = s.vars.length) :
    (look (prs s) v = none ∧ regF s v = (s.bump.addv v s.next, (s.next : Int), true)) ∨
    ∃ r, r ∈ s.regs ∧ look (prs s) v = some (.int .i64 r) ∧ regF s v = (s, r, false) := by
  rcases reg_find v s.vars s.regs 0 h with ⟨h1, h2⟩ | ⟨j, r, h1, h2, h3⟩
  · refine .inl ⟨h1, ?_⟩
    have h0 : decide (0 ≤ placeI s.vars v) = false := by rw [placeI, h2]; rfl
    unfold regF
    rw [h0]
    cases s.regs[(placeI s.vars v).toNat]? <;> rfl
  · refine .inr ⟨r, List.mem_of_getElem? h2, h3, ?_⟩
    have h0 : placeI s.vars v = j := by rw [placeI, h1]; omega
    unfold regF
    rw [h0]
    simp [h2]
/-- the maker in block bm: its code is its own row, its registers its own map -/
structure Mk (w : World) (base bm bq : Nat) (s : St) : Prop where
  has : ∃ A n cap, base ≤ bm ∧ base ≤ bq ∧ w.heap[bm]? = some (.cells #[.slice A n cap, .int .i64 s.next, .map (some bq)] 63 (0, 0)) ∧ OwnG RIn 6 w base 48 (.slice A n cap) n s.code ∧ MapI Try.prog 3 w bq (prs s)
  fit : s.fit 100000
theorem cells_of {w : World} {b : Nat} {cs : Array Value} {t : TypeId} (h : w.heap[b]? = some (.cells cs t (0, 0))) (k : Nat) : w.cell? ⟨b, k, none⟩ = cs[k]? := cell_of_row w b k cs t (0, 0) h
theorem block_lt {w : World} {b : Nat} {x : Obj} (h : w.heap[b]? = some x) : b < w.heap.size := (Array.getElem?_eq_some_iff.1 h).1

/-- the block of the maker's code -/
def vblk : Option Value → Option Nat
  | some (Value.slice (some a) _ _) => some a.block
  | _ => none
def cblk (w : World) (bm : Nat) : Option Nat := match w.heap[bm]? with
  | some (Obj.cells cs _ _) => vblk cs[0]?
  | _ => none
/-- a block that is none of the maker's -/
structure Free (w : World) (bm bq g : Nat) : Prop where
  lt : g < w.heap.size
  m : g ≠ bm
  q : g ≠ bq
  c : cblk w bm ≠ some g
/-- what is none of the maker's is as it was -/
structure Kept (w w' : World) (bm bq : Nat) : Prop where
  free : ∀ g, Free w bm bq g → w'.heap[g]? = w.heap[g]? ∧ Free w' bm bq g
theorem Kept.trans {w w' w'' : World} {bm bq : Nat} (h : Kept w w' bm bq) (h' : Kept w' w'' bm bq) : Kept w w'' bm bq := ⟨fun g hg => by
  obtain ⟨h1, h2⟩ := h.free g hg
  obtain ⟨h3, h4⟩ := h'.free g h2
  exact ⟨h3.trans h1, h4⟩⟩
theorem Kept.refl (w : World) (bm bq : Nat) : Kept w w bm bq := ⟨fun g hg => ⟨rfl, hg⟩⟩
theorem cblk_same {w w' : World} {bm : Nat} (h : w'.heap[bm]? = w.heap[bm]?) : cblk w' bm = cblk w bm := by unfold cblk; rw [h]
theorem cblk_of {w : World} {bm : Nat} {A : Option Addr} {n cap : Nat} {x y : Value} {t : TypeId} (h : w.heap[bm]? = some (.cells #[.slice A n cap, x, y] t (0, 0))) : cblk w bm = A.map (·.block) := by
  unfold cblk
  rw [h]
  cases A <;> rfl
/-- whatever leaves all old blocks as they were -/
theorem Kept.below {w w' : World} {bm bq : Nat} (hb : Below w.heap.size w w') (hm : bm < w.heap.size) : Kept w w' bm bq := ⟨fun g hg =>
  ⟨hb.block g hg.lt, ⟨Nat.lt_of_lt_of_le hg.lt hb.size, hg.m, hg.q, by rw [cblk_same (hb.block bm hm)]; exact hg.c⟩⟩⟩
/-- a method that hands back nothing, and leaves the maker so -/
def RetMk (w : World) (base bm bq : Nat) (s : St) (e : Ending) (w' : World) : Prop := e = .returned (.tuple #[]) ∧ Mk w' base bm bq s ∧ Below base w w' ∧ Kept w w' bm bq
/-- .. and hands back v -/
def RetMkV (w : World) (base bm bq : Nat) (s : St) (v : Value) (e : Ending) (w' : World) : Prop := e = .returned v ∧ Mk w' base bm bq s ∧ Below base w w' ∧ Kept w w' bm bq
theorem alloc_at {w : World} {g : Nat} {o : Obj} (hg : w.heap.size = g) : (w.alloc o).heap[g]? = some o := by rw [← hg]; exact heap_alloc_new w o
theorem alloc_past {w : World} {g : Nat} {o : Obj} (hg : g < w.heap.size) : (w.alloc o).heap[g]? = w.heap[g]? := heap_alloc_old w o hg
theorem Sl.blk {w : World} {g size n : Nat} {cs : Array Value} {t : TypeId} (h : w.heap[g]? = some (.cells cs t (0, 0))) (hl : cs.size = n * size) (hn : n ≤ maxLen) : Sl w size (some ⟨g, 0, none⟩) n n cs.toList :=
  ⟨by simpa using hl, Nat.le_refl _, hn, fun _ => ⟨g, 0, rfl, block_lt h, fun j u hu => by rw [Nat.zero_add, cells_of h, ← Array.getElem?_toList]; exact hu⟩⟩
theorem frozen_of {w : World} {b : Nat} {cs : Array Value} {t : TypeId} (h : w.heap[b]? = some (.cells cs t (0, 0))) (k : Nat) : w.frozen? ⟨b, k, none⟩ = false := by simp [World.frozen?, h]
theorem set_block {w : World} {b k : Nat} {cs : Array Value} {t : TypeId} (h : w.heap[b]? = some (.cells cs t (0, 0))) (v : Value) : (w.setCell ⟨b, k, none⟩ v).heap[b]? = some (.cells (cs.setIfInBounds k v) t (0, 0)) := by
  simp [World.setCell, Array.getElem?_modify, h]
theorem set_other {w : World} {b k g : Nat} (hne : g ≠ b) (v : Value) : (w.setCell ⟨b, k, none⟩ v).heap[g]? = w.heap[g]? := RowKit.Below.heap_setCell _ _ _ _ hne
theorem own_ne {w : World} {base size n cap g : Nat} {e : TypeId} {A : Option Addr} {xs : List Value} {x : Obj} (h : w.ownsRow base e size (.slice A n cap) n xs) (hx : w.heap[g]? = some x) (hne : ∀ cur, x ≠ .cells cur e (0, 0)) : ∀ a, A = some a → a.block ≠ g := by
  intro a ha hg
  rcases h.2 with ⟨h1, _⟩ | ⟨g', cap', cur, h1, _, h2, _⟩
  · injection h1 with h1; rw [ha] at h1; cases h1
  · injection h1 with h1
    rw [ha] at h1
    injection h1 with h1
    rw [h1] at hg
    simp at hg
    subst hg
    rw [hx] at h2
    injection h2 with h2
    exact hne cur h2

theorem own_at {w w' : World} {base size n cap : Nat} {e : TypeId} {A : Option Addr} {xs : List Value} (h : w.ownsRow base e size (.slice A n cap) n xs) (hk : ∀ a, A = some a → w'.heap[a.block]? = w.heap[a.block]?) : w'.ownsRow base e size (.slice A n cap) n xs := by
  refine ⟨h.1, ?_⟩
  rcases h.2 with h2 | ⟨g, cap', cur, hv, hg, hh, r⟩
  · exact .inl h2
  · refine .inr ⟨g, cap', cur, hv, hg, ?_, r⟩
    injection hv with hv
    have := hk _ hv
    simp at this
    rw [this]
    exact hh
theorem St.fit_emit {s : St} {N : Nat} {i : In} (h : s.fit N) (hi : i.wf) (hl : s.code.length < N) : (s.emit i).fit N :=
  ⟨by simp [St.emit]; omega, h.next, h.vars, h.same, fun x hx => by
    simp [St.emit] at hx
    rcases hx with hx | rfl
    · exact h.wf x hx
    · exact hi, h.rg, h.vr⟩

set_option maxRecDepth 100000 in
set_option maxHeartbeats 4000000 in
theorem mEmit_any (base bm bq : Nat) (s : St) (i : In) (w : World) (h : Mk w base bm bq s) (hi : i.wf) (hl : s.code.length < 100000) :
    Calls Try.prog 33 #[.pointer (some ⟨bm, 0, none⟩), i.val] w (RetMk w base bm bq (s.emit i)) := by
  obtain ⟨A, n, cap, hb1, hb2, hm, hcode, hmap⟩ := h.has
  have c0 := cells_of hm 0
  have c1 := cells_of hm 1
  have c2 := cells_of hm 2
  have hlt := block_lt hm
  simp at c0 c1 c2
  unfold In.val
  go_enter Try.func33, Try.ntmps33
  go_wp2
  obtain ⟨vs, v1, v2, hown, v4⟩ := hcode.rows
  have hn := hcode.len
  have hbw : base ≤ w.heap.size := by omega
  obtain ⟨w0, hw0⟩ : ∃ w0, w0 = w.alloc (.cells #[.int .i64 i.op, .int .i64 i.x, .int .i64 i.a, .string i.name, .int .i64 i.n, .bool i.neg] 48) := ⟨_, rfl⟩
  have hb : Below w.heap.size w w0 := by rw [hw0]; exact (Below.refl _ _).alloc (Nat.le_refl _) _
  have hs0 : w0.heap.size = w.heap.size + 1 := by rw [hw0]; simp
  have b0 : w0.heap[w.heap.size]? = some (.cells #[.int .i64 i.op, .int .i64 i.x, .int .i64 i.a, .string i.name, .int .i64 i.n, .bool i.neg] 48 (0, 0)) := by rw [hw0]; exact heap_alloc_new w _
  rw [← hw0]
  clear hw0
  have k0 := cells_of b0 0
  have k1 := cells_of b0 1
  have k2 := cells_of b0 2
  have k3 := cells_of b0 3
  have k4 := cells_of b0 4
  have k5 := cells_of b0 5
  simp at k0 k1 k2 k3 k4 k5
  have m0 := (hb.cell (p := ⟨bm, 0, none⟩) hlt).trans c0
  have hlt0 : bm < w0.heap.size := by omega
  have hmw := (hb.block bm hlt).trans hm
  have hqw := hmap.below hb
  have hownw := own_below hown hb
  have nbox : ∀ a, A = some a → a.block ≠ w.heap.size := fun a ha => by have := Own0.lt hown a ha; omega
  have nbm := own_ne hown hm (by intro cur he; simp at he)
  obtain ⟨es, clk, hq0⟩ := hmap.isMap
  have nbq := own_ne hown hq0 (by intro cur he; cases he)
  have hqlt := hmap.lt
  have nqb : bq ≠ bm := by rintro rfl; rw [hm] at hq0; cases hq0
  clear hq0
  have hne1 : ¬ w.heap.size = bm := by omega
  have hne2 : ¬ bm = w.heap.size := by omega
  go_region_law (first
      | (refine step_append_ap (xs := vs.flatten) (by rfl) (.tmp 8) (.tmp 10) 26 (by rfl) base 48 Try.underlying26 infoIn (by rfl) (by omega) (by rfl) (.inr (own_below hownw (by first | exact (((Below.refl _ _).alloc (Nat.le_refl _) _)).drew | exact (Below.refl _ _).drew.alloc (Nat.le_refl _) _))) (by rfl) (Sl.blk (cs := #[.int .i64 i.op, .int .i64 i.x, .int .i64 i.a, .string i.name, .int .i64 i.n, .bool i.neg]) (t := 48) (alloc_at (by first | rfl | exact hs0 | (simp; omega))) rfl (by simp [maxLen])) (oneIn i) (by omega) (by omega) (by omega) (by simp; omega) ?_; intro A1 cap1 w1 hown1 hb1' hap; (have g0 := (hap.old w.heap.size (by first | omega | (simp; omega)) nbox).trans ((alloc_past (by first | omega | (simp; omega))).trans b0)); (have gm := (hap.old bm (by first | omega | (simp; omega)) nbm).trans ((alloc_past (by first | omega | (simp; omega))).trans hmw)); (have gq := (hap.old bq (by first | omega | (simp; omega)) nbq).trans (alloc_past (by first | omega | (simp; omega)))); (have q0 := cells_of g0 0); (have q1 := cells_of g0 1); (have q2 := cells_of g0 2); (have q3 := cells_of g0 3); (have q4 := cells_of g0 4); (have q5 := cells_of g0 5); (have qm := cells_of gm 0); (have qf := frozen_of gm 0); simp at q0 q1 q2 q3 q4 q5 qm)
      | fail)
  all_goals go_end0
  all_goals
    have hA1 : ∀ a, A1 = some a → a.block ≠ bm := fun a ha => by
      rcases (hap.blk a ha).2 with ⟨a0, h0, h1⟩ | h1
      · rw [h1]; exact nbm a0 h0
      · simp at h1; omega
    have hbq : bq ≠ bm := nqb
    refine ⟨rfl, ⟨⟨A1, n + 1, cap1, hb1, hb2, ?_, ?_, ?_⟩, St.fit_emit h.fit hi hl⟩, ?_, ?_⟩
    · have := set_block (k := 0) gm (.slice A1 (n + 1) cap1)
      simp at this
      exact this
    · refine OwnG.snoc (own_at hown1 fun a ha => set_other (hA1 a ha) _) hn v1 v2 rfl (fun i x v hx hv => v4 i x v hx hv) ⟨rfl, hi⟩
    · exact (hqw.block gq).block (set_other hbq _)
    · refine Below.setCell ?_ (by simpa using hb1) _
      refine Below.trans (Below.drew (Below.alloc (hb.mono hbw) (by omega) _)) hb1'
    · refine ⟨fun g hg => ?_⟩
      have hgA : ∀ a, A = some a → a.block ≠ g := fun a ha he => hg.c (by
        rw [cblk_of hm, ha]
        simp [he])
      have hg0 : g < w0.heap.size := by have := hg.lt; omega
      have e1 := (hap.old g (by first | omega | (simp; omega)) hgA).trans ((alloc_past (by first | omega | (simp; omega))).trans (hb.block g hg.lt))
      refine ⟨(set_other hg.m _).trans e1, ⟨by have := hap.size; simp at this ⊢; omega, hg.m, hg.q, ?_⟩⟩
      have hm2 := set_block (k := 0) gm (.slice A1 (n + 1) cap1)
      simp at hm2
      rw [cblk_of hm2]
      intro hA
      cases hA1e : A1 with
      | none => rw [hA1e] at hA; cases hA
      | some a =>
        rw [hA1e] at hA
        injection hA with hA
        rcases (hap.blk a hA1e).2 with ⟨a0, h0, h1⟩ | h1
        · exact hgA a0 h0 (by rw [← h1]; exact hA)
        · have := hg.lt; simp at *; omega

theorem St.fit_bump {s : St} {N : Nat} (h : s.fit N) (hl : s.next < N) : s.bump.fit N := ⟨h.code, by simp [St.bump]; omega, h.vars, h.same, h.wf, h.rg, h.vr⟩
theorem Mk.set1 {w : World} {base bm bq : Nat} {s : St} (h : Mk w base bm bq s) (hl : s.next < 100000) : Mk (w.setCell ⟨bm, 1, none⟩ (.int .i64 (s.next + 1))) base bm bq s.bump := by
  obtain ⟨A, n, cap, hb1, hb2, hm, hcode, hmap⟩ := h.has
  obtain ⟨vs, v1, v2, hown, v4⟩ := hcode.rows
  have nbm := own_ne hown hm (by intro cur he; simp at he)
  obtain ⟨es, clk, hq0⟩ := hmap.isMap
  have nqb : bq ≠ bm := by rintro rfl; rw [hm] at hq0; cases hq0
  refine ⟨⟨A, n, cap, hb1, hb2, ?_, ?_, hmap.block (set_other nqb _)⟩, St.fit_bump h.fit hl⟩
  · have := set_block (k := 1) hm (.int .i64 (s.next + 1))
    simp at this
    exact this
  · exact ⟨hcode.len, vs, v1, v2, own_at hown fun a ha => set_other (nbm a ha) _, fun i x v hx hv => v4 i x v hx hv⟩

theorem mFresh_any (base bm bq : Nat) (s : St) (w : World) (h : Mk w base bm bq s) (hl : s.next < 100000) :
    Calls Try.prog 54 #[.pointer (some ⟨bm, 0, none⟩)] w (RetMkV w base bm bq s.bump (.int .i64 s.next)) := by
  have h1 := h.set1 hl
  obtain ⟨A, n, cap, hb1, hb2, hm, hcode, hmap⟩ := h.has
  have c1 := cells_of hm 1
  have f1 := frozen_of hm 1
  have hlt := block_lt hm
  simp at c1
  have hn : (s.next : Int) < 100000 := by omega
  have Hm := Lib.hid hm
  clear hm hcode hmap
  go_enter Try.func54, Try.ntmps54
  go_wp2
  go_ret
  refine ⟨by simp, h1, Below.setCell (Below.refl _ _) (by simpa using hb1) _, ⟨fun g hg => ⟨set_other hg.m _, ⟨by simpa using hg.lt, hg.m, hg.q, ?_⟩⟩⟩⟩
  have h2 := hg.c
  rw [cblk_of Hm.out] at h2
  have hm2 := set_block (k := 1) Hm.out (.int .i64 (s.next + 1))
  simp at hm2
  rw [cblk_of hm2]
  exact h2

theorem step_map_put {P : Program} {K : TypeId} {w : World} {b : Nat} {l : List (Int × Value)} {ops : Array Oper} {o : Oper} {a : Act} {K' : Act → World → Prop} {Q : Exit → Act → World → Prop} {E : Prop}
    (hw' : Region.wanted o (yielded ops a.tmps) = true) (m x y : Operand) (t : TypeId) (hop : o.op = Op.mapUpdate t m x y) (e : TypeId) (hk : P.underlying K = some (.int .i64)) (ht : P.underlying t = some (.map K e))
    (hm : a.eval m = .map (some b)) (h : MapI P K w b l) (hn : l.length < 1000000000) {k : Int} {v : Value} (hx : a.eval x = .int .i64 k) (hy : a.eval y = v) (hw : i64 k)
    (hK : ∀ w', MapI P K w' b (putA l k v) → w.grownBy w' (some b) → K' (a.put o.dst undef) w') : if Region.wanted o (yielded ops a.tmps) = true then o.wp P a w K' Q else E := by
  rw [if_pos hw']
  obtain ⟨w', hrun, r1, r2⟩ := run_map_put e hk ht h hn v hw
  unfold Oper.wp
  simp [execOp, hop, hm, hx, hy, hrun, Result.andThen]
  exact hK w' r1 r2
theorem zeroI (w : World) : (zeroValue 3).run Try.prog w = .ok (.int .i64 0) w := by kernel_rfl

theorem Mk.keep {w w' : World} {base bm bq : Nat} {s : St} (h : Mk w base bm bq s) (hb : Below w.heap.size w w') : Mk w' base bm bq s := by
  obtain ⟨A, n, cap, hb1, hb2, hm, hcode, hmap⟩ := h.has
  exact ⟨⟨A, n, cap, hb1, hb2, (hb.block bm (block_lt hm)).trans hm, hcode.below keepsIn hb, hmap.below hb⟩, h.fit⟩
theorem Mk.lt {w : World} {base bm bq : Nat} {s : St} (h : Mk w base bm bq s) : base ≤ bm ∧ bm < w.heap.size ∧ base ≤ bq ∧ bq < w.heap.size := by
  obtain ⟨A, n, cap, hb1, hb2, hm, hcode, hmap⟩ := h.has
  exact ⟨hb1, block_lt hm, hb2, hmap.lt⟩
theorem Mk.mq {w : World} {base bm bq : Nat} {s : St} (h : Mk w base bm bq s) : bm ≠ bq := by
  obtain ⟨A, n, cap, hb1, hb2, hm, hcode, hmap⟩ := h.has
  obtain ⟨es, clk, hq0⟩ := hmap.isMap
  rintro rfl; rw [hm] at hq0; cases hq0
theorem Mk.c2 {w : World} {base bm bq : Nat} {s : St} (h : Mk w base bm bq s) : w.cell? ⟨bm, 2, none⟩ = some (.map (some bq)) := by
  obtain ⟨A, n, cap, hb1, hb2, hm, hcode, hmap⟩ := h.has
  exact cells_of hm 2
theorem Mk.map {w : World} {base bm bq : Nat} {s : St} (h : Mk w base bm bq s) : MapI Try.prog 3 w bq (prs s) := by
  obtain ⟨A, n, cap, hb1, hb2, hm, hcode, hmap⟩ := h.has
  exact hmap
theorem prs_len (s : St) (h : s.regs.length = s.vars.length) : (prs s).length = s.vars.length := by simp [prs, h]
/-- the map with one more: the maker with one more variable -/
theorem Mk.put {w w' : World} {base bm bq : Nat} {s : St} {v : Int} {r : Int} (h : Mk w base bm bq s) (hq : MapI Try.prog 3 w' bq (putA (prs s) v (.int .i64 r))) (hg : w.grownBy w' (some bq)) (hlook : look (prs s) v = none)
    (hv : i64 v) (hr : 0 ≤ r ∧ r ≤ 100000) (hl : s.vars.length < 100000) : Mk w' base bm bq (s.addv v r) := by
  have hfit := h.fit
  obtain ⟨A, n, cap, hb1, hb2, hm, hcode, hmap⟩ := h.has
  obtain ⟨es, clk, hq0⟩ := hmap.isMap
  have nqb : bm ≠ bq := by rintro rfl; rw [hm] at hq0; cases hq0
  obtain ⟨vs, v1, v2, hown, v4⟩ := hcode.rows
  have nA := own_ne hown hq0 (by intro cur he; cases he)
  refine ⟨⟨A, n, cap, hb1, hb2, (hg.block bm (block_lt hm) (by simpa using nqb)).trans hm, ⟨hcode.len, vs, v1, v2, own_at hown fun a ha => hg.block _ (Own0.lt hown a ha).2 (by simpa using nA a ha), fun i x v hx hv => v4 i x v hx hv⟩, ?_⟩, ?_⟩
  · rw [putA_new hlook] at hq
    have e : prs (s.addv v r) = prs s ++ [(v, .int .i64 r)] := by
      simp only [prs, St.addv]
      rw [List.zipWith_append hfit.same.symm]
      rfl
    rw [e]
    exact hq
  · exact ⟨hfit.code, hfit.next, by simp [St.addv]; omega, by simp [St.addv, hfit.same], hfit.wf, fun x hx => by
      rcases List.mem_append.1 hx with hx | hx
      · exact hfit.rg x hx
      · simp at hx; subst hx; exact hr, fun x hx => by
      rcases List.mem_append.1 hx with hx | hx
      · exact hfit.vr x hx
      · simp at hx; subst hx; exact hv⟩

set_option maxRecDepth 100000 in
set_option maxHeartbeats 4000000 in
theorem mVariable_any (base bm bq : Nat) (s : St) (v x y : Int) (w : World) (hM : Mk w base bm bq s) (hv : i64 v) (hl : s.next < 100000) (hl2 : s.vars.length < 100000) :
    Calls Try.prog 52 #[.pointer (some ⟨bm, 0, none⟩), .int .i64 v, .int .i64 x, .int .i64 y] w (RetMkV w base bm bq (regF s v).1 (.tuple #[.int .i64 (regF s v).2.1, .int .i64 (if (regF s v).2.2 then x else y)])) := by
  have hfit := hM.fit
  have hmap := hM.map
  have c2 := hM.c2
  obtain ⟨hb1, hlt, hb2, hqlt⟩ := hM.lt
  rcases reg_cases s v hfit.same with ⟨hlook, hreg⟩ | ⟨r, hr, hlook, hreg⟩
  · rw [hreg]
    have hMd := hM.keep (Below.refl _ _).drew
    have hpl := prs_len s hfit.same
    have Hlook := Lib.hid hlook
    clear hreg
    go_enter Try.func52, Try.ntmps52
    go_wp2_with (first
      | (at_lookup; go_must (refine wpList_map_ok rfl (.tmp 16) (.tmp 17) 61 rfl 3 Try.underlying3 Try.underlying61 (zeroI _) rfl hmap rfl hv ?_); rw [hlook]; simp only [Option.getD, Option.isSome]))
    clear hlook
    go_region_held3 (fun w' => w'.cell? ⟨bm, 2, none⟩ = some (.map (some bq)))
      (first | assumption | go_keep)
      (first
        | (go_at_call 54; refine (mFresh_any base bm bq s _ hMd hl).mono ?_; rintro e w1 ⟨rfl, hM1, hbn, hkn⟩; have q2 := hM1.c2; obtain ⟨w2, hrun, hq2, hg2⟩ := run_map_put (t := 61) 3 Try.underlying3 Try.underlying61 hM1.map (by rw [show prs s.bump = prs s from rfl]; omega) (.int .i64 s.next) hv; have hM2 := Mk.put hM1 hq2 hg2 Hlook.out hv (by omega) hl2; have q22 := hM2.c2; have hb2' := Below.grown (hbn.mono (Nat.le_refl _)) hg2 (by have := hM1.lt; omega) (by intro k hk; cases hk; exact hb2))
        | fail)
    have hq3 := hM2.map
    have hlook3 : look (prs (s.bump.addv v s.next)) v = some (.int .i64 s.next) := by
      have : prs (s.bump.addv v s.next) = putA (prs s) v (.int .i64 s.next) := by
        rw [putA_new Hlook.out]
        simp only [prs, St.addv, St.bump]
        rw [List.zipWith_append hfit.same.symm]
        rfl
      rw [this, look_putA, if_pos rfl]
    go_wp2_with (first
      | (at_lookup; go_must (refine wpList_map_get rfl (.tmp 34) (.tmp 35) 61 rfl 3 Try.underlying3 Try.underlying61 (zeroI _) rfl hq3 rfl hv ?_); rw [hlook3]; simp only [Option.getD]))
    go_ret2
    refine ⟨rfl, hM2, Below.trans (Below.refl _ _).drew hb2', (Kept.below (Below.refl _ _).drew hlt).trans (hkn.trans ⟨fun g hg => ⟨hg2.block g hg.lt (by simpa using hg.q), ⟨Nat.lt_of_lt_of_le hg.lt hg2.size, hg.m, hg.q, ?_⟩⟩⟩)⟩
    have hm1 := hM1.lt
    rw [cblk_same (hg2.block bm hm1.2.1 (by simpa using hM1.mq))]
    exact hg.c
  · rw [hreg]
    go_enter Try.func52, Try.ntmps52
    go_wp2_with (first
      | (at_lookup; go_must (refine wpList_map_ok rfl (.tmp 16) (.tmp 17) 61 rfl 3 Try.underlying3 Try.underlying61 (zeroI _) rfl hmap rfl hv ?_); rw [hlook]; simp only [Option.getD, Option.isSome]))
    go_ret2
    exact ⟨rfl, hM, Below.refl _ _, Kept.refl _ _ _⟩
end Go.Proofs.Ytdeaeiolehglaaa

/- Clauses, and rows of instructions, that came in as arguments, opened. -/
namespace Go.Proofs.Ytdeaeiolehglaaa
open Go.RowKit Go.ChangeShapes Go.WideShapes Go.Deep Go.Joins

section
variable {H : Type} {enc : TypeId × Value → H} {w : World} {base : Nat} {spare : Nat → Bool} {held : Bool}
theorem open_row {t e : TypeId} (ht : Try.prog.underlying t = some (.slice e)) {k : Nat} (hke : Try.prog.cellsOf e = k) (hp : 0 < k) {fuel : Nat} {v : Value} {x : DataW H × List MemPlace} (h : DataW.trod enc Try.prog w base spare held fuel t [v] = some x) :
    ∃ (A : Option Addr) (n cap : Nat) (vs : List (List Value)), v = .slice A n cap ∧ vs.length = n ∧ (∀ u ∈ vs, u.length = k) ∧ Sl w k A n cap vs.flatten ∧ ∀ (i : Nat) (u : List Value), vs[i]? = some u → ∃ (n' : Nat) (z : DataW H × List MemPlace), DataW.trod enc Try.prog w base spare held n' e u = some z := by
  rcases open_slice ht h with ⟨hcs, _⟩ | ⟨a, len, cap, m, n, D, Pl, hcs, _, hl, hm, hmm, _, hel⟩
  · simp at hcs
    exact ⟨none, 0, 0, [], hcs, rfl, by simp, ⟨by simp, Nat.le_refl _, by simp [maxLen], fun h => absurd h (by omega)⟩, by simp⟩
  · simp at hcs
    subst hcs
    have hlm : len ≤ m := by rw [hmm]; split <;> omega
    have key : ∀ i, i < len → ∃ u : List Value, u.length = k ∧ (∀ j c, u[j]? = some c → w.cell? ((a.add (i * k)).add j) = some c) ∧ ∃ (n' : Nat) (z : DataW H × List MemPlace), DataW.trod enc Try.prog w base spare held n' e u = some z := by
      intro i hi
      obtain ⟨cs', hc, ht'⟩ := hel i (by omega)
      rw [hke] at hc
      obtain ⟨_, hcl, hat⟩ := World.cells?_some hc
      refine ⟨cs', hcl, fun j c hj => ?_, _, _, ht'⟩
      have hjl : j < k := by have := (List.getElem?_eq_some_iff.1 hj).1; omega
      rw [← hj]
      exact hat j hjl
    obtain ⟨vs, hlen, hvs⟩ := build_list _ len key
    have hk : ∀ u ∈ vs, u.length = k := fun u hu => by
      obtain ⟨i, hi, rfl⟩ := List.getElem_of_mem hu
      exact (hvs i _ (List.getElem?_eq_getElem hi)).1
    refine ⟨some a, len, cap, vs, rfl, hlen, hk, ⟨by rw [flatten_len hk, hlen], hl, hm, fun hn => ?_⟩, fun i u hu => (hvs i u hu).2.2⟩
    obtain ⟨b, off, spot⟩ := a
    obtain ⟨u0, hu0⟩ : ∃ u, vs[0]? = some u := ⟨_, List.getElem?_eq_getElem (by omega)⟩
    obtain ⟨h01, h02, _⟩ := hvs 0 u0 hu0
    obtain ⟨c0, hc0⟩ : ∃ c, u0[0]? = some c := ⟨_, List.getElem?_eq_getElem (by omega)⟩
    have h0 := h02 0 c0 hc0
    have hs : spot = none := by simpa [Addr.add] using spot_none h0
    subst hs
    refine ⟨b, off, rfl, by simpa [Addr.add] using World.block_lt_of_cell? w _ h0, fun j u hu => ?_⟩
    have hadd : ∀ o q, (⟨b, o, none⟩ : Addr).add q = ⟨b, o + q, none⟩ := fun o q => by unfold Addr.add; split <;> simp_all
    have hjl : j < vs.length * k := by
      have := (List.getElem?_eq_some_iff.1 hu).1
      rwa [flatten_len hk] at this
    have hdiv : j / k < vs.length := (Nat.div_lt_iff_lt_mul hp).2 hjl
    have hmod : j % k < k := Nat.mod_lt _ hp
    have hjk : j / k * k + j % k = j := Nat.div_add_mod' j k
    obtain ⟨vi, hvi⟩ : ∃ vi, vs[j / k]? = some vi := ⟨_, List.getElem?_eq_getElem hdiv⟩
    obtain ⟨g1, g2, _⟩ := hvs _ vi hvi
    obtain ⟨c, hc⟩ : ∃ c, vi[j % k]? = some c := ⟨_, List.getElem?_eq_getElem (by omega)⟩
    have g3 := g2 _ c hc
    have g4 := flatten_get hk hvi hc
    rw [hjk, hu] at g4
    have g4 := Option.some.inj g4
    rw [hadd, hadd, Nat.add_assoc, hjk] at g3
    rw [g3, g4]
theorem struct_get {e : TypeId} (hf : Try.prog.underlying e = some (.struct (Try.prog.fieldsOf e))) (hone : oneCellFields Try.prog (Try.prog.fieldsOf e) = true) {n k : Nat} {u : List Value} {z : DataW H × List MemPlace} (hs : (Try.prog.fieldsOf e).size = k) (hu : u.length = k)
    (h : DataW.trod enc Try.prog w base spare held n e u = some z) : ∀ (j : Nat) (t : TypeId), ((Try.prog.fieldsOf e)[j]?).map (·.type) = some t → ∃ n' y c, u[j]? = some c ∧ DataW.trod enc Try.prog w base spare held n' t [c] = some y := by
  intro j t hj
  obtain ⟨ys, n', hn', hy, hlen, hyl, hff⟩ := DataW.trod_struct hf h
  obtain ⟨f, hj', hft⟩ := Option.map_eq_some_iff.1 hj
  subst hft
  obtain ⟨ho, hk⟩ := hone_of hone j f hj'
  have hjl : j < (Try.prog.fieldsOf e).size := (Array.getElem?_eq_some_iff.1 hj').1
  have h1 := hff j f hj'
  rw [ho, hk] at h1
  have hone' : (u.drop j).take 1 = [u[j]'(by omega)] := by
    rw [List.drop_eq_getElem_cons (by omega)]
    rfl
  rw [hone'] at h1
  have hys : ys[j]? = some (ys[j]'(by rw [hyl]; exact hjl)) := List.getElem?_eq_getElem _
  exact ⟨_, _, _, List.getElem?_eq_getElem (by omega), h1.trans hys⟩
theorem fieldsI : Try.prog.underlying 48 = some (.struct (Try.prog.fieldsOf 48)) := by kernel_rfl
theorem fieldsL : Try.prog.underlying 55 = some (.struct (Try.prog.fieldsOf 55)) := by kernel_rfl
theorem open_instrs {fuel : Nat} {v : Value} {x : DataW H × List MemPlace} (h : DataW.trod enc Try.prog w base spare held fuel 26 [v] = some x) : ∃ A n cap l, v = .slice A n cap ∧ IsK w A n cap l := by
  obtain ⟨A, n, cap, vs, rfl, h1, h2, h3, h4⟩ := open_row (k := 6) (e := 48) Try.underlying26 (by kernel_rfl) (by omega) h
  have key : ∀ i, i < n → ∃ c : In, ∃ u, vs[i]? = some u ∧ u = c.flat ∧ c.wf := by
    intro i hi
    obtain ⟨u, hu⟩ : ∃ u, vs[i]? = some u := ⟨_, List.getElem?_eq_getElem (by omega)⟩
    obtain ⟨n', z, hz⟩ := h4 i u hu
    have hl := h2 u (List.mem_of_getElem? hu)
    have get := struct_get fieldsI (by kernel_rfl) (k := 6) (by kernel_rfl) hl hz
    obtain ⟨_, _, c0, g0, t0⟩ := get 0 3 (by kernel_rfl)
    obtain ⟨_, _, c1, g1, t1⟩ := get 1 3 (by kernel_rfl)
    obtain ⟨_, _, c2, g2, t2⟩ := get 2 3 (by kernel_rfl)
    obtain ⟨_, _, c3, g3, t3⟩ := get 3 9 (by kernel_rfl)
    obtain ⟨_, _, c4, g4, t4⟩ := get 4 3 (by kernel_rfl)
    obtain ⟨_, _, c5, g5, t5⟩ := get 5 4 (by kernel_rfl)
    obtain ⟨k0, e0, _, w0⟩ := DataW.trod_int Try.underlying3 t0
    obtain ⟨k1, e1, _, w1⟩ := DataW.trod_int Try.underlying3 t1
    obtain ⟨k2, e2, _, w2⟩ := DataW.trod_int Try.underlying3 t2
    obtain ⟨k3, e3, _, w3⟩ := DataW.trod_string Try.underlying9 t3
    obtain ⟨k4, e4, _, w4⟩ := DataW.trod_int Try.underlying3 t4
    obtain ⟨k5, e5, _⟩ := DataW.trod_bool Try.underlying4 t5
    simp at e0 e1 e2 e3 e4 e5
    subst e0 e1 e2 e3 e4 e5
    refine ⟨⟨k0, k1, k2, k3, k4, k5⟩, u, hu, ?_, ⟨wf_i64 w0, wf_i64 w1, wf_i64 w2, wf_i64 w4, w3⟩⟩
    match u, hl with
    | [a0, a1, a2, a3, a4, a5], _ =>
      simp at g0 g1 g2 g3 g4 g5
      rw [g0, g1, g2, g3, g4, g5]
  obtain ⟨l, hll, hl⟩ := build_list _ n key
  exact ⟨A, n, cap, l, rfl, hll, vs, by omega, h2, h3, fun i x v hx hv => by
    obtain ⟨u, hu, hf, hw⟩ := hl i x hx
    rw [hv] at hu
    cases hu
    exact ⟨hf, hw⟩⟩
theorem open_lits {fuel : Nat} {v : Value} {x : DataW H × List MemPlace} (h : DataW.trod enc Try.prog w base spare held fuel 23 [v] = some x) : ∃ A n cap l, v = .slice A n cap ∧ IsLs w A n cap l := by
  obtain ⟨A, n, cap, vs, rfl, h1, h2, h3, h4⟩ := open_row (k := 2) (e := 55) Try.underlying23 (by kernel_rfl) (by omega) h
  have key : ∀ i, i < n → ∃ c : Bool × List C, ∃ u, vs[i]? = some u ∧ RLit w c u := by
    intro i hi
    obtain ⟨u, hu⟩ : ∃ u, vs[i]? = some u := ⟨_, List.getElem?_eq_getElem (by omega)⟩
    obtain ⟨n', z, hz⟩ := h4 i u hu
    have hl := h2 u (List.mem_of_getElem? hu)
    have get := struct_get fieldsL (by kernel_rfl) (k := 2) (by kernel_rfl) hl hz
    obtain ⟨_, _, c0, g0, t0⟩ := get 0 4 (by kernel_rfl)
    obtain ⟨_, _, c1, g1, t1⟩ := get 1 22 (by kernel_rfl)
    obtain ⟨k0, e0, _⟩ := DataW.trod_bool Try.underlying4 t0
    obtain ⟨A', n'', c', cs, e1, hcs⟩ := open_cells t1
    simp at e0
    subst e0 e1
    refine ⟨(k0, cs), u, hu, A', n'', c', ?_, hcs⟩
    match u, hl with
    | [a0, a1], _ =>
      simp at g0 g1
      rw [g0, g1]
  obtain ⟨l, hll, hl⟩ := build_list _ n key
  exact ⟨A, n, cap, l, rfl, hll, vs, by omega, h2, h3, fun i x v hx hv => by
    obtain ⟨u, hu, hr⟩ := hl i x hx
    rw [hv] at hu
    cases hu
    exact hr⟩
set_option maxRecDepth 100000 in
theorem open_clause {r : Reach} {b0 : Nat} {v : Value} {d : DataW H} {p : List MemPlace} (hv : Value.okWide Try.prog w r b0 25 v) (h : DataW.Trod enc Try.prog w base spare held 25 v d p) :
    ∃ A n c t B m e b, v = .agg #[.slice A n c, .slice B m e] ∧ IsC w A n c t ∧ IsLs w B m e b := by
  obtain ⟨v0, v1, y0, y1, n, rfl, _, _, h0, h1⟩ := open_agg2 Try.underlying25 (by kernel_rfl) (by kernel_rfl) hv h
  obtain ⟨A, n', c, t, rfl, ht⟩ := open_cells h0
  obtain ⟨B, m, e, b, rfl, hb⟩ := open_lits h1
  exact ⟨A, n', c, t, B, m, e, b, rfl, ht, hb⟩
end
end Go.Proofs.Ytdeaeiolehglaaa

/- What reading code back computes, in plain words. No program in sight. -/
namespace Go.Proofs.Ytdeaeiolehglaaa
open Go.RowKit

def lk {α : Type} : List (Int × α) → Int → Option α
  | [], _ => none
  | p :: r, k => if p.1 = k then some p.2 else lk r k
def pt {α : Type} : List (Int × α) → Int → α → List (Int × α)
  | [], k, v => [(k, v)]
  | p :: r, k, v => if p.1 = k then (k, v) :: r else p :: pt r k v
theorem lk_pt {α : Type} (l : List (Int × α)) (k j : Int) (v : α) : lk (pt l k v) j = if k = j then some v else lk l j := by
  induction l with
  | nil => rfl
  | cons p r ih =>
    simp only [pt]
    split
    · rename_i h
      simp only [lk]
      by_cases hj : k = j
      · rw [if_pos hj, if_pos hj]
      · rw [if_neg hj, if_neg hj, if_neg (by rw [h]; exact hj)]
    · rename_i h
      simp only [lk]
      by_cases hp : p.1 = j
      · rw [if_pos hp, if_pos hp, if_neg (by rintro rfl; exact h hp)]
      · rw [if_neg hp, if_neg hp, ih]
theorem length_pt {α : Type} (l : List (Int × α)) (k : Int) (v : α) : (pt l k v).length ≤ l.length + 1 := by
  induction l with
  | nil => simp [pt]
  | cons p r ih =>
    simp only [pt]
    split <;> simp
    omega
/-- what registers hold, as code tells; and the open structure -/
structure Rm where
  same : List (Int × Int)
  ints : List (Int × Int)
  structs : List (Int × List In)
  opn : Int
def isPart (i : In) : Prop := i.op = 5 ∨ i.op = 6 ∨ i.op = 7 ∨ i.op = 9 ∨ i.op = 10 ∨ i.op = 11
instance (i : In) : Decidable (isPart i) := inferInstanceAs (Decidable (_ ∨ _))
def rdStep (r : Rm) (i : In) : Rm :=
  if i.op = 1 ∨ i.op = 2 then { r with same := pt r.same i.a i.x }
  else if i.op = 3 then { r with ints := pt r.ints i.a i.n }
  else if i.op = 4 ∨ i.op = 8 then { r with structs := pt r.structs i.a [i], opn := i.a }
  else if isPart i ∧ 0 ≤ r.opn then { r with structs := pt r.structs r.opn ((lk r.structs r.opn).getD [] ++ [i]) }
  else r
def readG (r : Rm) : List In → Rm
  | [] => r
  | i :: l => readG (rdStep r i) l
def readF (l : List In) : Rm := readG ⟨[], [], [], -1⟩ l
/-- variables' registers and numbers, and how many cells were made -/
structure Rv where
  vars : List (Int × Int)
  cells : Nat
def noName : ByteArray := ⟨#[]⟩
def restF (g : Rv → Int → Rv × List C) : Rv → List In → Rv × List C
  | v, [] => (v, [])
  | v, i :: l => if i.op = 7 ∨ i.op = 11 then ((restF g v l).1, ⟨2, noName, i.n⟩ :: (restF g v l).2) else ((restF g (g v i.x).1 l).1, (g v i.x).2 ++ (restF g (g v i.x).1 l).2)
def varF (v : Rv) (reg : Int) : Rv × List C :=
  match lk v.vars reg with
  | some k => (v, [⟨1, noName, k⟩])
  | none => ({ v with vars := pt v.vars reg v.vars.length }, [⟨1, noName, v.vars.length⟩])
def tick (v : Rv) : Rv := { v with cells := v.cells + 1 }
def termF (M : Rm) : Nat → Rv → Int → Rv × List C
  | 0, v, _ => (tick v, [])
  | f + 1, v, reg =>
    if 1809 < v.cells + 1 then (tick v, [])
    else match lk M.ints reg with
      | some n => (tick v, [⟨2, noName, n⟩])
      | none => match lk M.structs reg with
        | none => varF (tick v) ((lk M.same reg).getD reg)
        | some [] => (tick v, [])
        | some (h :: l) => ((restF (termF M f) (tick v) l).1, ⟨3, h.name, h.n⟩ :: (restF (termF M f) (tick v) l).2)
/-- how far a reading may go: K parts at most behind a structure -/
def potF (K : Nat) (c : Nat) : Nat := c + K * (1810 - c)
structure Grown (K : Nat) (v v' : Rv) (out : List C) : Prop where
  mono : v.cells + 1 ≤ v'.cells
  pot : potF K v'.cells ≤ potF K v.cells + 1
  len : out.length ≤ (K + 1) * (v'.cells - v.cells)
theorem pot_step (K c : Nat) (h : c + 1 ≤ 1809) : potF K (c + 1) + K = potF K c + 1 := by
  unfold potF
  have : 1810 - c = (1810 - (c + 1)) + 1 := by omega
  rw [this, Nat.mul_add]
  omega
theorem pot_over (K c : Nat) : potF K (c + 1) ≤ potF K c + 1 := by
  unfold potF
  have : K * (1810 - (c + 1)) ≤ K * (1810 - c) := Nat.mul_le_mul_left _ (by omega)
  omega
theorem var_cells (v : Rv) (r : Int) : (varF v r).1.cells = v.cells ∧ (varF v r).2.length = 1 := by
  unfold varF
  cases lk v.vars r <;> exact ⟨rfl, rfl⟩
theorem rest_grown (K : Nat) (g : Rv → Int → Rv × List C) (hg : ∀ v r, Grown K v (g v r).1 (g v r).2) : ∀ (l : List In) (v : Rv), v.cells ≤ (restF g v l).1.cells ∧ potF K (restF g v l).1.cells ≤ potF K v.cells + l.length ∧ (restF g v l).2.length ≤ l.length + (K + 1) * ((restF g v l).1.cells - v.cells)
  | [], v => by simp [restF]
  | i :: l, v => by
    unfold restF
    split
    · obtain ⟨h1, h2, h3⟩ := rest_grown K g hg l v
      exact ⟨h1, by simp; omega, by simp; omega⟩
    · obtain ⟨h1, h2, h3⟩ := rest_grown K g hg l (g v i.x).1
      obtain ⟨k1, k2, k3⟩ := hg v i.x
      refine ⟨by simp only; omega, by simp only [List.length_cons]; omega, ?_⟩
      simp only [List.length_append, List.length_cons]
      have : (restF g (g v i.x).1 l).1.cells - v.cells = ((restF g (g v i.x).1 l).1.cells - (g v i.x).1.cells) + ((g v i.x).1.cells - v.cells) := by omega
      rw [this, Nat.mul_add]
      omega
theorem term_grown (M : Rm) (K : Nat) (hM : ∀ k row, lk M.structs k = some row → row.length ≤ K + 1) : ∀ (f : Nat) (v : Rv) (r : Int), Grown K v (termF M f v r).1 (termF M f v r).2
  | 0, v, r => ⟨Nat.le_refl _, pot_over _ _, by simp [termF]⟩
  | f + 1, v, r => by
    unfold termF
    split
    · exact ⟨Nat.le_refl _, pot_over _ _, by simp⟩
    · rename_i hc
      have hone : ∀ (v' : Rv) (x : C), v'.cells = v.cells + 1 → Grown K v v' [x] := fun v' x hv => ⟨by omega, by rw [hv]; exact pot_over _ _, by rw [hv, Nat.add_sub_cancel_left]; simp⟩
      split
      · exact hone _ _ rfl
      · split
        · have h := var_cells (tick v) ((lk M.same r).getD r)
          exact ⟨by rw [h.1]; exact Nat.le_refl _, by rw [h.1]; exact pot_over _ _, by rw [h.1, h.2]; simp [tick]⟩
        · exact ⟨Nat.le_refl _, pot_over _ _, by simp⟩
        · rename_i h l hrow
          have hl := hM r _ hrow
          simp at hl
          obtain ⟨h1, h2, h3⟩ := rest_grown K (termF M f) (term_grown M K hM f) l (tick v)
          have hp := pot_step K v.cells (by omega)
          refine ⟨h1, ?_, ?_⟩
          · have : potF K (tick v).cells = potF K (v.cells + 1) := rfl
            simp only
            omega
          · simp only [List.length_cons]
            have hc2 : (tick v).cells = v.cells + 1 := rfl
            rw [hc2] at h1 h3
            have : (restF (termF M f) (tick v) l).1.cells - v.cells = ((restF (termF M f) (tick v) l).1.cells - (v.cells + 1)) + 1 := by omega
            rw [this, Nat.mul_add]
            omega
/-- variables' numbers are small -/
structure VOk (v : Rv) : Prop where
  len : v.vars.length ≤ v.cells
  num : ∀ r k, lk v.vars r = some k → 0 ≤ k ∧ k ≤ v.cells
theorem VOk.tick {v : Rv} (h : VOk v) : VOk (tick v) := ⟨by have := h.len; simp only [Go.Proofs.Ytdeaeiolehglaaa.tick]; omega, fun r k hk => by have := h.num r k hk; simp only [Go.Proofs.Ytdeaeiolehglaaa.tick]; omega⟩
theorem VOk.var {v : Rv} (h : VOk v) (r : Int) (hc : v.vars.length + 1 ≤ v.cells) : VOk (varF v r).1 := by
  unfold varF
  cases hl : lk v.vars r with
  | some k => exact h
  | none => exact ⟨by have := length_pt v.vars r (v.vars.length : Int); simp only; omega, fun q k hk => by
      simp only at hk
      rw [lk_pt] at hk
      split at hk
      · cases hk; have := h.len; exact ⟨by omega, by simp only; omega⟩
      · exact h.num q k hk⟩
theorem VOk.rest {g : Rv → Int → Rv × List C} (hg : ∀ v r, VOk v → VOk (g v r).1) : ∀ (l : List In) (v : Rv), VOk v → VOk (restF g v l).1
  | [], v, h => h
  | i :: l, v, h => by
    unfold restF
    split
    · exact VOk.rest hg l v h
    · exact VOk.rest hg l _ (hg v i.x h)
theorem VOk.term (M : Rm) : ∀ (f : Nat) (v : Rv) (r : Int), VOk v → VOk (termF M f v r).1
  | 0, v, r, h => h.tick
  | f + 1, v, r, h => by
    unfold termF
    split
    · exact h.tick
    · split
      · exact h.tick
      · split
        · exact h.tick.var _ (by have := h.len; simp only [Go.Proofs.Ytdeaeiolehglaaa.tick]; omega)
        · exact h.tick
        · exact VOk.rest (VOk.term M f) _ _ h.tick
/-- what registers hold is small -/
structure MOk (M : Rm) : Prop where
  ints : ∀ r n, lk M.ints r = some n → i64 n
  same : ∀ r n, lk M.same r = some n → i64 n
  rows : ∀ r row, lk M.structs r = some row → row ≠ [] ∧ (∀ i ∈ row, i.wf)
end Go.Proofs.Ytdeaeiolehglaaa

/- The walk that makes an argument that is a variable, or a number. -/
namespace Go.Proofs.Ytdeaeiolehglaaa
open Go.RowKit

set_option maxRecDepth 100000 in
set_option maxHeartbeats 4000000 in
theorem mOne_any (base bm bq : Nat) (s : St) (T : Tm) (x y z : Int) (w : World) (hM : Mk w base bm bq s) (hT : T.ok = true) (hk : T.c0.kind ≠ 3) (hr : s.room 1) (hx : i64 x) (hy : i64 y) (hz : i64 z) :
    Calls Try.prog 53 #[.pointer (some ⟨bm, 0, none⟩), T.c0.val, .int .i64 x, .int .i64 y, .int .i64 z] w (RetMk w base bm bq (oneF x y z s T)) := by
  have hfit := hM.fit
  have hb : Below w.heap.size w (w.alloc (.cells #[.int .i64 T.c0.kind, .string T.c0.name, .int .i64 T.c0.n] 45)) := (Below.refl _ _).alloc (Nat.le_refl _) _
  have hM0 := hM.keep hb
  have hbase : base ≤ w.heap.size := by have := hM.lt; omega
  have hr1 := hr.code
  have hr2 := hr.next
  have hr3 := hr.vars
  have hw := c0_wf hT
  cases T with
  | v n =>
    have hvn : i64 n := hw.n
    have hreg := regF_reg hfit n (by omega)
    have hop : i64 (if (regF s n).2.2 then x else y) := by split <;> assumption
    have hvar := mVariable_any base bm bq s n x y _ hM0 hvn (by omega) (by omega)
    have hone : oneF x y z s (.v n) = (regF s n).1.emit { op := if (regF s n).2.2 then x else y, x := (regF s n).2.1 } := rfl
    have hcode := regF_code s n
    rw [hone]
    clear hone
    generalize (if (regF s n).2.2 then x else y) = op at *
    generalize (regF s n).2.1 = rg at *
    generalize (regF s n).1 = s1 at *
    unfold Tm.c0 C.val
    go_enter Try.func53, Try.ntmps53
    go_wp2_with (first
      | (go_at_call 52; go_must (refine hvar.mono ?_); rintro e w1 ⟨rfl, hM1, hb1, hk1⟩)
      | (go_at_call 33; go_must (refine (mEmit_any base bm bq s1 { op := op, x := rg } _ hM1 (wfI hop (i64_small (by omega) (by omega)) i64_0 i64_0 empty_size) (by rw [hcode]; omega)).mono ?_); rintro e w2 ⟨rfl, hM2, hb2, hk2⟩))
    go_end0
    exact ⟨rfl, hM2, Below.trans (hb.mono hbase) (hb1.trans hb2), (Kept.below hb hM.lt.2.1).trans (hk1.trans hk2)⟩
  | i n =>
    unfold Tm.c0 C.val
    go_enter Try.func53, Try.ntmps53
    go_wp2_with (first
      | (go_at_call 33; go_must (refine (mEmit_any base bm bq s { op := z, n := n } _ hM0 (wfI hz i64_0 i64_0 hw.n empty_size) (by omega)).mono ?_); rintro e w2 ⟨rfl, hM2, hb2, hk2⟩))
    go_end0
    exact ⟨rfl, hM2, Below.trans (hb.mono hbase) hb2, (Kept.below hb hM.lt.2.1).trans hk2⟩
  | f s us => exact absurd rfl hk
end Go.Proofs.Ytdeaeiolehglaaa
