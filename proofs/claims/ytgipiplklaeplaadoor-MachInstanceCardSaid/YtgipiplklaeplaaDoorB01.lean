/- Texts of this proof that belong together: words of memory, plain laws, walks. -/
import Derived.BigQuiet
import Derived.ChangeOld
import Derived.ChangeSame
import Derived.Deep.AppendLies
import Derived.Deep.Fields
import Derived.Deep.QuietTactic
import Derived.Deep.Slices
import Derived.Lib.Hide
import Derived.Lib.SmallJoins
import Derived.Maps.AppendAt
import Derived.OpenShut
import Derived.ProofKit
import Derived.ShutString
import Derived.Test.YtgipiplklaeplaaDoorRows
import Derived.WalkKit
import Derived.WalkLawsBesides
import Derived.WalkSpells
set_option linter.unusedVariables false
set_option linter.unusedSimpArgs false
namespace Go.Proofs.YtgipiplklaeplaaDoor
open Go.RowKit
theorem bcell {W w1 : World} {B : Nat} (hb : Below B W w1) : (∀ b o, b < B → w1.cell? ⟨b, o, none⟩ = W.cell? ⟨b, o, none⟩) ∧ (∀ b o, b < B → w1.frozen? ⟨b, o, none⟩ = W.frozen? ⟨b, o, none⟩) :=
 ⟨fun b o h => hb.cell (p := ⟨b, o, none⟩) h, fun b o h => hb.frozen (p := ⟨b, o, none⟩) h⟩
structure C where
 kind : Int
 name : ByteArray
 n : Int
def i64 (n : Int) : Prop := -9223372036854775808 ≤ n ∧ n ≤ 9223372036854775807
structure C.wf (c : C) : Prop where
 kind : i64 c.kind
 n : i64 c.n
 name : c.name.size ≤ maxLen
def C.val (c : C) : Value := .agg #[.int .i64 c.kind, .string c.name, .int .i64 c.n]
def C.flat (c : C) : List Value := [.int .i64 c.kind, .string c.name, .int .i64 c.n]
def flatC (cs : List C) : List Value := cs.flatMap C.flat
def C.beq (a b : C) : Bool := a.kind == b.kind && (a.name.toList == b.name.toList && a.n == b.n)
structure Sl (w : World) (size : Nat) (A : Option Addr) (n cap : Nat) (xs : List Value) : Prop where
 len : xs.length = n * size
 hcap : n ≤ cap
 hmax : cap ≤ maxLen
 cells : 0 < n → ∃ b off, A = some ⟨b, off, none⟩ ∧ b < w.heap.size ∧ ∀ j u, xs[j]? = some u → w.cell? ⟨b, off + j, none⟩ = some u
theorem Sl.below {w w' : World} {size n cap : Nat} {A : Option Addr} {xs : List Value} (h : Sl w size A n cap xs) (hb : Below w.heap.size w w') : Sl w' size A n cap xs :=
 ⟨h.len, h.hcap, h.hmax, fun hn => by
  obtain ⟨b, off, hA, hlt, hc⟩ := h.cells hn
  exact ⟨b, off, hA, Nat.lt_of_lt_of_le hlt hb.size, fun j u hu => (hb.cell (p := ⟨b, off + j, none⟩) hlt).trans (hc j u hu)⟩⟩
theorem Sl.cut {w : World} {size n cap : Nat} {A : Option Addr} {xs : List Value} (h : Sl w size A n cap xs) {lo hi : Nat} (hlo : lo ≤ hi) (hhi : hi ≤ n) (_hs : 0 < size) :
  Sl w size (if cap = lo then A else A.map (·.add (lo * size))) (hi - lo) (cap - lo) ((xs.drop (lo * size)).take ((hi - lo) * size)) := by
 have h1 := h.hcap
 have h2 := h.hmax
 have h3 := h.len
 have hle : lo * size + (hi - lo) * size ≤ n * size := by rw [← Nat.add_mul]; exact Nat.mul_le_mul_right _ (by omega)
 refine ⟨by rw [List.length_take, List.length_drop, h3]; omega, by omega, by omega, fun hn => ?_⟩
 obtain ⟨b, off, rfl, hlt, hc⟩ := h.cells (by omega)
 rw [if_neg (by omega)]
 refine ⟨b, off + lo * size, by simp [Addr.add], hlt, fun j u hu => ?_⟩
 rw [List.getElem?_take] at hu
 split at hu
 ·rw [List.getElem?_drop] at hu
  have := hc _ u hu
  rwa [← Nat.add_assoc] at this
 ·cases hu
theorem Sl.of_own {w : World} {base size n : Nat} {e : TypeId} {v : Value} {xs : List Value} (h : w.ownsRow base e size v n xs) (_hs : 0 < size) : ∃ A cap, v = .slice A n cap ∧ Sl w size A n cap xs := by
 rcases h.2 with ⟨rfl, rfl⟩ | ⟨g, cap, cur, rfl, hb, hg, h1, h2, h3, h4⟩
 ·exact ⟨none, 0, rfl, by have := h.1; simpa using this, Nat.le_refl _, by simp [maxLen], fun h => absurd h (by omega)⟩
 ·refine ⟨some ⟨g, 0, none⟩, cap, rfl, h.1, h1, h2, fun _ => ⟨g, 0, rfl, (Array.getElem?_eq_some_iff.1 hg).1, fun j u hu => ?_⟩⟩
  rw [Nat.zero_add, cell_of_row w g j cur e (0, 0) hg]
  rw [← h4, List.getElem?_take] at hu
  split at hu
  ·simpa using hu
  ·cases hu
theorem flatC_len (cs : List C) : (flatC cs).length = cs.length * 3 := by
 induction cs with
 | nil => rfl
 | cons c cs ih => simp [flatC, C.flat] at ih ⊢; omega
theorem flatC_append (a b : List C) : flatC (a ++ b) = flatC a ++ flatC b := by simp [flatC]
theorem flatC_drop (cs : List C) (k : Nat) : (flatC cs).drop (k * 3) = flatC (cs.drop k) := by
 induction cs generalizing k with
 | nil => simp [flatC]
 | cons c cs ih =>
  cases k with
  | zero => simp
  | succ k =>
   have := ih k
   rw [Nat.succ_mul]
   simp [flatC, C.flat] at this ⊢
   exact this
theorem flatC_take (cs : List C) (k : Nat) : (flatC cs).take (k * 3) = flatC (cs.take k) := by
 induction cs generalizing k with
 | nil => simp [flatC]
 | cons c cs ih =>
  cases k with
  | zero => simp [flatC]
  | succ k =>
   have := ih k
   rw [Nat.succ_mul]
   simp [flatC, C.flat] at this ⊢
   exact this
theorem flatC_get (cs : List C) (k : Nat) (c : C) (h : cs[k]? = some c) :
  (flatC cs)[k * 3]? = some (.int .i64 c.kind) ∧ (flatC cs)[k * 3 + 1]? = some (.string c.name) ∧ (flatC cs)[k * 3 + 2]? = some (.int .i64 c.n) := by
 induction cs generalizing k with
 | nil => simp at h
 | cons d cs ih =>
  cases k with
  | zero => simp at h; subst h; simp [flatC, C.flat]
  | succ k =>
   have := ih k (by simpa using h)
   rw [Nat.succ_mul]
   simp [flatC, C.flat] at this ⊢
   exact this
structure IsC (w : World) (A : Option Addr) (n cap : Nat) (cs : List C) : Prop where
 sl : Sl w 3 A n cap (flatC cs)
 wf : ∀ c ∈ cs, c.wf
theorem IsC.len {w : World} {A : Option Addr} {n cap : Nat} {cs : List C} (h : IsC w A n cap cs) : cs.length = n := by
 have := h.sl.len
 rw [flatC_len] at this
 omega
theorem IsC.below {w w' : World} {A : Option Addr} {n cap : Nat} {cs : List C} (h : IsC w A n cap cs) (hb : Below w.heap.size w w') : IsC w' A n cap cs := ⟨h.sl.below hb, h.wf⟩
theorem IsC.at_ {w : World} {A : Option Addr} {n cap : Nat} {cs : List C} (h : IsC w A n cap cs) {k : Nat} {c : C} (hk : cs[k]? = some c) :
  ∃ b off, A = some ⟨b, off, none⟩ ∧ b < w.heap.size ∧ c.wf ∧ w.cell? ⟨b, off + k * 3, none⟩ = some (.int .i64 c.kind) ∧ w.cell? ⟨b, off + k * 3 + 1, none⟩ = some (.string c.name) ∧ w.cell? ⟨b, off + k * 3 + 2, none⟩ = some (.int .i64 c.n) := by
 have hlt : k < cs.length := (List.getElem?_eq_some_iff.1 hk).1
 obtain ⟨b, off, rfl, hb, hc⟩ := h.sl.cells (by have := h.len; omega)
 obtain ⟨h0, h1, h2⟩ := flatC_get cs k c hk
 exact ⟨b, off, rfl, hb, h.wf c (List.mem_of_getElem? hk), hc _ _ h0, hc _ _ h1, hc _ _ h2⟩
theorem IsC.get {w : World} {A : Option Addr} {n cap : Nat} {cs : List C} (h : IsC w A n cap cs) {k : Nat} (hk : k < n) : ∃ c, cs[k]? = some c :=
 ⟨_, List.getElem?_eq_getElem (by have := h.len; omega)⟩
theorem IsC.cut {w : World} {A : Option Addr} {n cap : Nat} {cs : List C} (h : IsC w A n cap cs) {lo hi : Nat} (hlo : lo ≤ hi) (hhi : hi ≤ n) :
  IsC w (if cap = lo then A else A.map (·.add (lo * 3))) (hi - lo) (cap - lo) ((cs.drop lo).take (hi - lo)) := by
 refine ⟨?_, fun c hc => h.wf c (List.mem_of_mem_drop (List.mem_of_mem_take hc))⟩
 have := h.sl.cut hlo hhi (by omega)
 rwa [flatC_drop, flatC_take] at this
theorem IsC.cut' {w : World} {b off n cap : Nat} {cs : List C} (h : IsC w (some ⟨b, off, none⟩) n cap cs) {lo hi : Nat} (hlo : lo ≤ hi) (hhi : hi ≤ n) (hc : ¬ cap = lo) :
  IsC w (some ⟨b, off + lo * 3, none⟩) (hi - lo) (cap - lo) ((cs.drop lo).take (hi - lo)) := by
 have := h.cut hlo hhi
 rw [if_neg hc] at this
 have e : (⟨b, off, none⟩ : Addr).add (lo * 3) = ⟨b, off + lo * 3, none⟩ := by unfold Addr.add; split <;> simp_all
 simpa [e] using this
theorem IsC.nil (w : World) (A : Option Addr) (cap : Nat) (h : cap ≤ maxLen) : IsC w A 0 cap [] := ⟨⟨rfl, Nat.zero_le _, h, fun h => absurd h (by omega)⟩, by simp⟩
structure IsI (w : World) (A : Option Addr) (n cap : Nat) (ns : List Int) : Prop where
 sl : Sl w 1 A n cap (ns.map (Value.int .i64))
 wf : ∀ x ∈ ns, i64 x
theorem IsI.len {w : World} {A : Option Addr} {n cap : Nat} {ns : List Int} (h : IsI w A n cap ns) : ns.length = n := by
 have := h.sl.len
 rw [List.length_map] at this
 omega
theorem IsI.below {w w' : World} {A : Option Addr} {n cap : Nat} {ns : List Int} (h : IsI w A n cap ns) (hb : Below w.heap.size w w') : IsI w' A n cap ns := ⟨h.sl.below hb, h.wf⟩
theorem IsI.at_ {w : World} {A : Option Addr} {n cap : Nat} {ns : List Int} (h : IsI w A n cap ns) {k : Nat} {x : Int} (hk : ns[k]? = some x) :
  ∃ b off, A = some ⟨b, off, none⟩ ∧ b < w.heap.size ∧ i64 x ∧ w.cell? ⟨b, off + k, none⟩ = some (.int .i64 x) := by
 have hlt : k < ns.length := (List.getElem?_eq_some_iff.1 hk).1
 obtain ⟨b, off, rfl, hb, hc⟩ := h.sl.cells (by have := h.len; omega)
 exact ⟨b, off, rfl, hb, h.wf x (List.mem_of_getElem? hk), hc _ _ (by rw [List.getElem?_map, hk]; rfl)⟩
theorem IsI.get {w : World} {A : Option Addr} {n cap : Nat} {ns : List Int} (h : IsI w A n cap ns) {k : Nat} (hk : k < n) : ∃ x, ns[k]? = some x :=
 ⟨_, List.getElem?_eq_getElem (by have := h.len; omega)⟩
theorem IsI.nil (w : World) (A : Option Addr) (cap : Nat) (h : cap ≤ maxLen) : IsI w A 0 cap [] := ⟨⟨rfl, Nat.zero_le _, h, fun h => absurd h (by omega)⟩, by simp⟩
theorem below_drewN {B : Nat} {a w : World} (h : Below B a w) (n : Nat) : Below B a (w.drewN n) := ⟨h.os, h.tape, h.output, h.size, h.block⟩
theorem quiet_add {P : Program} {f : FuncId} {args : Array Value} {w : World} {a n : Nat} {v : Value}
  (h : Calls P f args (w.drewN (a + n)) fun e w' => e = .returned v ∧ ∃ m, w' = (w.drewN (a + n)).drewN m) :
  Calls P f args (w.drewN (a + n)) fun e w'' => e = .returned v ∧ ∃ m, w'' = w.drewN (a + m) :=
 h.mono fun _ _ ⟨he, m, hm⟩ => ⟨he, n + m, by rw [hm, World.drewN_drewN, Nat.add_assoc]⟩
def RetD (w : World) (v : Value) (e : Ending) (w' : World) : Prop := e = .returned v ∧ ∃ n, w' = w.drewN n
def RetV (w : World) (v : Value) (e : Ending) (w' : World) : Prop := e = .returned v ∧ Below w.heap.size w w'
def RetC (w : World) (cs : List C) (e : Ending) (w' : World) : Prop := ∃ A n cap, e = .returned (.slice A n cap) ∧ IsC w' A n cap cs ∧ Below w.heap.size w w'
def RetI (w : World) (ns : List Int) (e : Ending) (w' : World) : Prop := ∃ A n cap, e = .returned (.slice A n cap) ∧ IsI w' A n cap ns ∧ Below w.heap.size w w'
theorem IsC.drewN {w : World} {A : Option Addr} {n cap : Nat} {cs : List C} (h : IsC w A n cap cs) (d : Nat) : IsC (w.drewN d) A n cap cs := h.below (below_drewN (Below.refl _ _) d)
theorem ret_int {k : IntKind} {a b : Int} (h : a = b) : Ending.returned (.int k a) = .returned (.int k b) := by rw [h]
theorem ret_bool {a b : Bool} (h : a = b) : Ending.returned (.bool a) = .returned (.bool b) := by rw [h]
end Go.Proofs.YtgipiplklaeplaaDoor
namespace Go.Proofs.YtgipiplklaeplaaDoor
open Go.RowKit Go.ChangeShapes Go.WideShapes Go.Deep
theorem fieldsC : Tryd.prog.underlying 66 = some (.struct (Tryd.prog.fieldsOf 66)) := by kernel_rfl
theorem fieldC0 : ((Tryd.prog.fieldsOf 66)[0]?).map (·.type) = some 3 := by kernel_rfl
theorem fieldC1 : ((Tryd.prog.fieldsOf 66)[1]?).map (·.type) = some 9 := by kernel_rfl
theorem fieldC2 : ((Tryd.prog.fieldsOf 66)[2]?).map (·.type) = some 3 := by kernel_rfl
theorem fieldC3 : (Tryd.prog.fieldsOf 66).size = 3 := by kernel_rfl
theorem cellsC : Tryd.prog.cellsOf 66 = 3 := by kernel_rfl
theorem oneFieldsC : oneCellFields Tryd.prog (Tryd.prog.fieldsOf 66) = true := by kernel_rfl
theorem wf_i64 {n : Int} (h : (Lit.int .i64 n).wf = true) : i64 n := by
 simp [Lit.wf, IntKind.min, IntKind.max, IntKind.signed, IntKind.bits] at h
 unfold i64
 omega
theorem spot_none {w : World} {a : Addr} {v : Value} (h : w.cell? a = some v) : a.spot = none := World.cell?_spot h
theorem build_list {α : Type} (Pr : Nat → α → Prop) : ∀ n : Nat, (∀ i, i < n → ∃ c, Pr i c) → ∃ cs : List α, cs.length = n ∧ ∀ (i : Nat) (c : α), cs[i]? = some c → Pr i c := by
 intro n
 induction n with
 | zero => intro _; exact ⟨[], rfl, by simp⟩
 | succ n ih =>
  intro key
  obtain ⟨cs, h1, h2⟩ := ih (fun i hi => key i (by omega))
  obtain ⟨c, hc⟩ := key n (by omega)
  refine ⟨cs ++ [c], by simp [h1], fun i d hd => ?_⟩
  rw [List.getElem?_append] at hd
  split at hd
  ·exact h2 i d hd
  ·rename_i hi
   have : i = cs.length := by
    have := (List.getElem?_eq_some_iff.1 hd).1
    simp at this
    omega
   subst this
   simp at hd
   subst hd
   rw [h1]
   exact hc
section
variable {H : Type} {enc : TypeId × Value → H} {w : World} {base : Nat} {spare : Nat → Bool} {held : Bool}
theorem open_cells {fuel : Nat} {v : Value} {x : DataW H × List MemPlace} (h : DataW.trod enc Tryd.prog w base spare held fuel 22 [v] = some x) :
  ∃ A n cap cs, v = .slice A n cap ∧ IsC w A n cap cs := by
 rcases open_slice Tryd.underlying22 h with ⟨hcs, _⟩ | ⟨a, len, cap, m, n, D, Pl, hcs, _, hl, hm, hmm, _, hel⟩
 ·simp at hcs
  exact ⟨none, 0, 0, [], hcs, IsC.nil w none 0 (by simp [maxLen])⟩
 ·simp at hcs
  subst hcs
  have hlm : len ≤ m := by rw [hmm]; split <;> omega
  have key : ∀ i, i < len → ∃ c : C, c.wf ∧ w.cell? (a.add (i * 3)) = some (.int .i64 c.kind) ∧ w.cell? ((a.add (i * 3)).add 1) = some (.string c.name) ∧ w.cell? ((a.add (i * 3)).add 2) = some (.int .i64 c.n) := by
   intro i hi
   obtain ⟨cs', hc, ht'⟩ := hel i (by omega)
   rw [cellsC] at hc
   obtain ⟨ys, n', hn', hy, hlen, hyl, hf⟩ := DataW.trod_struct fieldsC ht'
   obtain ⟨_, hcl, hat⟩ := World.cells?_some hc
   have get : ∀ (j : Nat) (t : TypeId), ((Tryd.prog.fieldsOf 66)[j]?).map (·.type) = some t → ∃ u z, w.cell? ((a.add (i * 3)).add j) = some u ∧ DataW.trod enc Tryd.prog w base spare held n' t [u] = some z := by
    intro j t hj
    obtain ⟨f, hj', hft⟩ := Option.map_eq_some_iff.1 hj
    subst hft
    clear hj
    have hj := hj'
    obtain ⟨ho, hk⟩ := hone_of oneFieldsC j f hj
    have hjl : j < (Tryd.prog.fieldsOf 66).size := (Array.getElem?_eq_some_iff.1 hj).1
    rw [fieldC3] at hjl
    have hcell := hat j hjl
    have h1 := hf j f hj
    rw [ho, hk] at h1
    have hone' : (cs'.drop j).take 1 = [cs'[j]'(by omega)] := by
     rw [List.drop_eq_getElem_cons (by omega)]
     rfl
    rw [hone'] at h1
    have hys : ys[j]? = some (ys[j]'(by rw [hyl, fieldC3]; exact hjl)) := List.getElem?_eq_getElem _
    rw [List.getElem?_eq_getElem (by omega)] at hcell
    exact ⟨_, _, hcell, h1.trans hys⟩
   obtain ⟨u0, z0, c0, t0⟩ := get 0 _ fieldC0
   obtain ⟨u1, z1, c1, t1⟩ := get 1 _ fieldC1
   obtain ⟨u2, z2, c2, t2⟩ := get 2 _ fieldC2
   obtain ⟨k, e0, _, w0⟩ := DataW.trod_int Tryd.underlying3 t0
   obtain ⟨s, e1, _, w1⟩ := DataW.trod_string Tryd.underlying9 t1
   obtain ⟨q, e2, _, w2⟩ := DataW.trod_int Tryd.underlying3 t2
   simp at e0 e1 e2
   subst e0 e1 e2
   exact ⟨⟨k, s, q⟩, ⟨wf_i64 w0, wf_i64 w2, w1⟩, by simpa [Addr.add] using c0, c1, c2⟩
  have hcs := build_list _ len key
  obtain ⟨cs, hlen, hcell⟩ := hcs
  refine ⟨some a, len, cap, cs, rfl, ⟨by rw [flatC_len, hlen], hl, hm, fun hn => ?_⟩, fun c hc => ?_⟩
  ·obtain ⟨b, off, spot⟩ := a
   obtain ⟨c, hc⟩ : ∃ c, cs[0]? = some c := ⟨_, List.getElem?_eq_getElem (by omega)⟩
   have h0 := (hcell 0 c hc).2.1
   have hs : spot = none := by simpa [Addr.add] using spot_none h0
   subst hs
   refine ⟨b, off, rfl, World.block_lt_of_cell? w _ h0, fun j u hu => ?_⟩
   have hadd : ∀ k, (⟨b, off, none⟩ : Addr).add k = ⟨b, off + k, none⟩ := fun k => by unfold Addr.add; split <;> simp_all
   have hadd' : ∀ o k, (⟨b, o, none⟩ : Addr).add k = ⟨b, o + k, none⟩ := fun o k => by unfold Addr.add; split <;> simp_all
   have hjl : j < cs.length * 3 := by
    have := (List.getElem?_eq_some_iff.1 hu).1
    rwa [flatC_len] at this
   obtain ⟨q, hq⟩ : ∃ q, cs[j / 3]? = some q := ⟨_, List.getElem?_eq_getElem (by omega)⟩
   obtain ⟨_, g0, g1, g2⟩ := hcell _ q hq
   obtain ⟨f0, f1, f2⟩ := flatC_get cs (j / 3) q hq
   rw [hadd] at g0 g1 g2
   rw [hadd'] at g1 g2
   have hm3 : j % 3 = 0 ∨ j % 3 = 1 ∨ j % 3 = 2 := by omega
   rcases hm3 with hm3 | hm3 | hm3
   ·have e : j = j / 3 * 3 := by omega
    rw [e] at hu ⊢
    rw [f0] at hu
    injection hu with hu
    rw [← hu]
    exact g0
   ·have e : j = j / 3 * 3 + 1 := by omega
    rw [e] at hu ⊢
    rw [f1] at hu
    injection hu with hu
    rw [← hu, ← Nat.add_assoc]
    exact g1
   ·have e : j = j / 3 * 3 + 2 := by omega
    rw [e] at hu ⊢
    rw [f2] at hu
    injection hu with hu
    rw [← hu, ← Nat.add_assoc]
    exact g2
  ·obtain ⟨i, hi, rfl⟩ := List.getElem_of_mem hc
   exact (hcell i _ (List.getElem?_eq_getElem hi)).1
end
end Go.Proofs.YtgipiplklaeplaaDoor
namespace Go.Proofs.YtgipiplklaeplaaDoor
open Go.RowKit
def oddB (b : UInt8) : Bool := decide (b.toNat < 32) || (decide (126 < b.toNat) || b.toNat == 39)
def okName (s : ByteArray) : Bool := !(s.data.toList.any oddB) && (decide (1 ≤ s.size) && decide (s.size ≤ 12))
def C.ok (c : C) : Bool :=
 if c.kind = 1 then decide (c.name.toList = []) && (decide (0 ≤ c.n) && decide (c.n ≤ 999))
 else if c.kind = 2 then decide (c.name.toList = []) && (decide (-2147483647 ≤ c.n) && decide (c.n ≤ 2147483647))
 else if c.kind = 3 then okName c.name && (decide (0 ≤ c.n) && decide (c.n ≤ 6))
 else false
def oddR (r : Int) : Bool := decide (r < 32) || (decide (126 < r) || r == 39)
theorem oddB_yes {b : UInt8} (h : (b.toNat : Int) < 32 ∨ 126 < (b.toNat : Int) ∨ (b.toNat : Int) = 39) : oddB b = true := by
 have h' : b.toNat < 32 ∨ 126 < b.toNat ∨ b.toNat = 39 := by omega
 simpa [oddB] using h'
theorem oddB_no {b : UInt8} (h1 : 32 ≤ (b.toNat : Int)) (h2 : (b.toNat : Int) ≤ 126) (h3 : (b.toNat : Int) ≠ 39) : oddB b = false := by
 have h1' : 32 ≤ b.toNat := by omega
 have h2' : b.toNat ≤ 126 := by omega
 have h3' : b.toNat ≠ 39 := by omega
 simp [oddB]; omega
theorem drop_cons (s : ByteArray) (k : Nat) (h : k < s.size) : s.data.toList.drop k = s[k] :: s.data.toList.drop (k + 1) := by
 rw [List.drop_eq_getElem_cons (by simpa using h)]
 rfl
theorem any_drop (p : UInt8 → Bool) (s : ByteArray) (k : Nat) (h : k < s.size) : (s.data.toList.drop k).any p = (p s[k] || (s.data.toList.drop (k + 1)).any p) := by
 rw [drop_cons s k h]; rfl
theorem decode_lt (s : ByteArray) (i : Nat) (hi : i < s.size) (h : s[i].toNat < 128) : Utf8.decode s i = (s[i].toNat, 1) := by
 have hg : s.get! i = s[i] := by simp [ByteArray.get!, getElem!_pos, hi]; rfl
 simp [Utf8.decode, hg, h]
theorem decode_ge (s : ByteArray) (i : Nat) (hi : i < s.size) (h : 128 ≤ s[i].toNat) : 128 ≤ (Utf8.decode s i).1 ∧ (Utf8.decode s i).1 ≤ 2147483647 ∧ 1 ≤ (Utf8.decode s i).2 := by
 have hg : s.get! i = s[i] := by simp [ByteArray.get!, getElem!_pos, hi]; rfl
 have e : ∀ k, (s.get! k).toNat < 256 := fun k => UInt8.toNat_lt _
 have e1 := e (i + 1)
 have e2 := e (i + 2)
 have e3 := e (i + 3)
 have e0 : s[i].toNat < 256 := UInt8.toNat_lt _
 simp only [Utf8.decode, Nat.add_zero, hg, Utf8.runeError]
 repeat' split
 all_goals first | omega | (dsimp only; omega) | (simp; omega) | (simp at *; omega)
theorem runes_odd (s : ByteArray) : ∀ (bound i : Nat) (acc : Array Value), s.size ≤ bound + i →
  ∃ rs : List Int, (Conv.runesFrom s bound i acc).toList = acc.toList ++ rs.map (Value.int .i32) ∧ (∀ r ∈ rs, -2147483648 ≤ r ∧ r ≤ 2147483647) ∧ rs.length ≤ bound ∧ rs.any oddR = (s.data.toList.drop i).any oddB := by
 intro bound
 induction bound with
 | zero =>
  intro i acc h
  refine ⟨[], by simp [Conv.runesFrom], by simp, by simp, ?_⟩
  rw [List.drop_of_length_le (by simp; omega)]
  rfl
 | succ bound ih =>
  intro i acc h
  by_cases hi : i < s.size
  ·unfold Conv.runesFrom
   simp only [hi, if_true]
   by_cases hb : s[i].toNat < 128
   ·rw [decode_lt s i hi hb]
    obtain ⟨rs, h1, h2, h3, h4⟩ := ih (i + 1) (acc.push (.int .i32 (Int.ofNat s[i].toNat))) (by omega)
    refine ⟨(s[i].toNat : Int) :: rs, by simpa using h1, ?_, by simpa using h3, ?_⟩
    ·intro r hr
     rcases List.mem_cons.1 hr with rfl | hr
     ·omega
     ·exact h2 r hr
    ·rw [any_drop oddB s i hi, List.any_cons, h4]
     congr 1
     simp only [oddR, oddB]
     congr 1
     ·exact decide_eq_decide.2 (by omega)
     ·congr 1
      ·exact decide_eq_decide.2 (by omega)
      ·rw [Bool.eq_iff_iff]; simp; omega
   ·obtain ⟨g1, g2, g3⟩ := decode_ge s i hi (by omega)
    obtain ⟨rs, h1, h2, h3, h4⟩ := ih (i + (Utf8.decode s i).2) (acc.push (.int .i32 (Int.ofNat (Utf8.decode s i).1))) (by omega)
    refine ⟨((Utf8.decode s i).1 : Int) :: rs, by simpa using h1, ?_, by simpa using h3, ?_⟩
    ·intro r hr
     rcases List.mem_cons.1 hr with rfl | hr
     ·omega
     ·exact h2 r hr
    ·rw [any_drop oddB s i hi, List.any_cons, oddB_yes (by omega)]
     have : oddR ((Utf8.decode s i).1 : Int) = true := by
      have : 126 < ((Utf8.decode s i).1 : Int) := by omega
      simp [oddR, this]
     rw [this]; rfl
  ·refine ⟨[], by unfold Conv.runesFrom; simp [hi], by simp, by simp, ?_⟩
   rw [List.drop_of_length_le (by simp; omega)]
   rfl
def idxF {α : Type} (p : α → Bool) : Nat → List α → Int
 | _, [] => -1
 | k, x :: l => if p x then k else idxF p (k + 1) l
theorem idxF_any {α : Type} (p : α → Bool) (l : List α) : ∀ k : Nat, decide (0 ≤ idxF p k l) = l.any p := by
 induction l with
 | nil => intro k; simp [idxF]
 | cons x l ih =>
  intro k
  by_cases h : p x
  ·simp [idxF, h]
  ·simp [idxF, h, ih (k + 1)]
theorem idxF_le {α : Type} (p : α → Bool) (l : List α) : ∀ k : Nat, -1 ≤ idxF p k l ∧ idxF p k l < k + l.length := by
 induction l with
 | nil => intro k; simp [idxF]; omega
 | cons x l ih =>
  intro k
  have := ih (k + 1)
  by_cases h : p x
  ·simp [idxF, h]; omega
  ·simp [idxF, h]; omega
end Go.Proofs.YtgipiplklaeplaaDoor
namespace Go.Proofs.YtgipiplklaeplaaDoor
open Go.RowKit
structure IsR (w : World) (A : Option Addr) (n cap : Nat) (rs : List Int) : Prop where
 sl : Sl w 1 A n cap (rs.map (Value.int .i32))
 wf : ∀ x ∈ rs, -2147483648 ≤ x ∧ x ≤ 2147483647
theorem IsR.len {w : World} {A : Option Addr} {n cap : Nat} {rs : List Int} (h : IsR w A n cap rs) : rs.length = n := by
 have := h.sl.len
 rw [List.length_map] at this
 omega
theorem IsR.at_ {w : World} {A : Option Addr} {n cap : Nat} {rs : List Int} (h : IsR w A n cap rs) {k : Nat} {x : Int} (hk : rs[k]? = some x) :
  ∃ b off, A = some ⟨b, off, none⟩ ∧ b < w.heap.size ∧ (-2147483648 ≤ x ∧ x ≤ 2147483647) ∧ w.cell? ⟨b, off + k, none⟩ = some (.int .i32 x) := by
 have hlt : k < rs.length := (List.getElem?_eq_some_iff.1 hk).1
 obtain ⟨b, off, rfl, hb, hc⟩ := h.sl.cells (by have := h.len; omega)
 exact ⟨b, off, rfl, hb, h.wf x (List.mem_of_getElem? hk), hc _ _ (by rw [List.getElem?_map, hk]; rfl)⟩
theorem IsR.get {w : World} {A : Option Addr} {n cap : Nat} {rs : List Int} (h : IsR w A n cap rs) {k : Nat} (hk : k < n) : ∃ x, rs[k]? = some x :=
 ⟨_, List.getElem?_eq_getElem (by have := h.len; omega)⟩
section
variable {P : Program} {w : World} {ops : Array Oper} {rest : List Oper} {o : Oper} {a : Act} {Q : Exit → Act → World → Prop}
theorem wpList_run (hw : Region.wanted o (yielded ops a.tmps) = true) {Φ : Value → World → Prop} (hr : ∃ v w', (execOp a.eval o).run P w = .ok (.value v) w' ∧ Φ v w')
  (k : ∀ v w', Φ v w' → wpList P ops Q rest (a.put o.dst v) w') : wpList P ops Q (o :: rest) a w := by
 obtain ⟨v, w', hr, hp⟩ := hr
 refine wpList_step fun K hK => ?_
 rw [if_pos hw]
 unfold Oper.wp
 rw [hr]
 exact hK _ _ (k v w' hp)
theorem run_convert_op {x : Operand} {src dst : TypeId} {v u : Value} {w' : World} (hop : o.op = Op.convert src dst x) (hx : a.eval x = v) (hr : (convert src dst v).run P w = .ok u w') : (execOp a.eval o).run P w = .ok (.value u) w' := by
 simp only [execOp, hop, hx, Sem.run_bind, hr, Result.andThen_ok, Sem.run_pure]
theorem wpList_runes (hw : Region.wanted o (yielded ops a.tmps) = true) (x : Operand) (src dst e : TypeId) (hop : o.op = Op.convert src dst x)
  (hs : P.underlying src = some .string) (hd : P.underlying dst = some (.slice e)) (he : P.underlying e = some (.int .i32)) (s : ByteArray) (hx : a.eval x = .string s) (hsz : s.size ≤ 100000)
  (k : ∀ A n cap w' rs, Below w.heap.size w w' → IsR w' A n cap rs → n ≤ 100000 → rs.any oddR = s.data.toList.any oddB → wpList P ops Q rest (a.put o.dst (.slice A n cap)) w') : wpList P ops Q (o :: rest) a w := by
 obtain ⟨rs, h1, h2, h3, h4⟩ := runes_odd s s.size 0 #[] (by omega)
 have h1' : (Conv.runesFrom s s.size 0 #[]).toList = rs.map (Value.int .i32) := by simpa using h1
 have hl : (Conv.runesFrom s s.size 0 #[]).size = rs.length := by rw [← Array.length_toList, h1', List.length_map]
 have hrun := run_runes_of_string (P := P) w src dst e s hs hd he (by omega)
 have hrun' := run_convert_op hop hx hrun
 refine wpList_run (Φ := fun v w' => ∃ A n cap, v = .slice A n cap ∧ Below w.heap.size w w' ∧ IsR w' A n cap rs ∧ n ≤ 100000) hw ⟨_, _, hrun', _, _, _, rfl, ?_, ⟨⟨?_, ?_, ?_, fun _ => ⟨_, 0, rfl, ?_, ?_⟩⟩, h2⟩, by omega⟩ ?_
 ·exact ((Below.refl _ _).drew).alloc (Nat.le_refl _) _
 ·simpa using hl.symm
 ·exact grownCap_ge _ _ _ _
 ·exact grownCap_le_maxLen _ _ _ _ (by simp only [maxLen]; omega)
 ·simp
 ·intro j u hu
  have hj : j < rs.length := by
   have := (List.getElem?_eq_some_iff.1 hu).1
   simpa using this
  have hc : ∀ (C : Array Value), C[j]? = some u → (w.drew.alloc (.cells C e)).cell? ⟨w.heap.size, j, none⟩ = some u := fun C hC => by
   have := World.cell?_alloc_mark w.drew C e (0, 0) j
   exact this.trans hC
  rw [Nat.zero_add]
  apply hc
  rw [Array.getElem?_append_left (by omega), ← Array.getElem?_toList, h1', hu]
 ·rintro v w' ⟨A, n, cap, rfl, hb, hi, hn⟩
  exact k A n cap w' rs hb hi hn (by simpa using h4)
theorem run_append_of_nil (base : Nat) (t ty e : TypeId) (i : TypeInfo) (size : Nat) (ht : P.underlying t = some (.slice e)) (hi : P.info? e = some i)
  (v : Value) (n : Nat) (xs : List Value) (hown : w.ownsRow base e size v n xs) (c : Nat) : (Builtin.append_ #[t, t] ty #[v, .slice none 0 c]).run P w = .ok v w := by
 rcases hown.2 with ⟨rfl, rfl⟩ | ⟨g, cap, cur, rfl, _, _, hnc, _⟩
 ·simp [Builtin.append_, run_underlying ht, sizeOf, typeInfo, hi, Builtin.lenOf, Builtin.firstCells]
 ·simp [Builtin.append_, run_underlying ht, sizeOf, typeInfo, hi, Builtin.lenOf, Builtin.firstCells, hnc, storeCells]
theorem run_append_sl (base : Nat) (t ty e : TypeId) (i : TypeInfo) (z : Value) (size bytes : Nat) (ht : P.underlying t = some (.slice e)) (hi : P.info? e = some i) (hz : i.zero = some z)
  (hsize : i.size = size) (hby : i.bytes = bytes) (hzs : z.cells.size = size) (hsz : 0 < size)
  (v : Value) (n : Nat) (xs : List Value) (hown : w.ownsRow base e size v n xs)
  (A : Option Addr) (m c : Nat) (news : List Value) (hr : Sl w size A m c news) (h1 : ∀ u ∈ news, u.oneCell' = true)
  (h63 : n + m ≤ maxLen) (hbytes : (n + m) * bytes ≤ 140737488355328) (hbase : base ≤ w.heap.size) :
  ∃ v' w', (Builtin.append_ #[t, t] ty #[v, .slice A m c]).run P w = .ok v' w' ∧ w'.ownsRow base e size v' (n + m) (xs ++ news) ∧ w.grownBy w' v.ownBlock ∧
   (v'.ownBlock = v.ownBlock ∨ v'.ownBlock = some w.heap.size) := by
 rcases A with _ | ad
 ·have hm : m = 0 := by
   rcases Nat.eq_zero_or_pos m with h0 | h0
   ·exact h0
   ·obtain ⟨b, off, h, _⟩ := hr.cells h0
    cases h
  subst hm
  have hn : news = [] := List.eq_nil_of_length_eq_zero (by simpa using hr.len)
  subst hn
  exact ⟨v, w, run_append_of_nil base t ty e i size ht hi v n xs hown c, by simpa using hown, World.grownBy.refl w _, .inl rfl⟩
 ·have hcells : ∀ j u, news[j]? = some u → w.cell? (ad.add j) = some u := by
   intro j u hu
   rcases Nat.eq_zero_or_pos m with h0 | h0
   ·subst h0
    have hn : news = [] := List.eq_nil_of_length_eq_zero (by simpa using hr.len)
    subst hn
    simp at hu
   ·obtain ⟨b, off, h, _, hc⟩ := hr.cells h0
    injection h with h
    subst h
    have hadd : (⟨b, off, none⟩ : Addr).add j = ⟨b, off + j, none⟩ := by unfold Addr.add; split <;> simp_all
    rw [hadd]
    exact hc j u hu
  obtain ⟨v', w', hrun, h2, h3, _, h5⟩ := run_append_own_at (P := P) w base t ty e i z size bytes ht hi hz hsize hby hzs hsz v n xs hown ad m c news hr.len hcells h1 h63 hbytes hbase
  exact ⟨v', w', hrun, h2, h3, h5⟩
theorem wpList_append_sl (hw : Region.wanted o (yielded ops a.tmps) = true) (s x : Operand) (t : TypeId) (ho : o.op = .call { callee := .builtin .append, args := #[s, x], argTypes := #[t, t] })
  (base : Nat) (e : TypeId) {z : Value} {size bytes : Nat} (ht : P.underlying t = some (.slice e)) (hinfo : (P.info? e).map (fun i => (i.zero, i.size, i.bytes)) = some (some z, size, bytes))
  (hzs : z.cells.size = size) (hsz : 0 < size) {v : Value} {n : Nat} {xs : List Value} (hs : a.eval s = v) (hown : w.ownsRow base e size v n xs)
  {A : Option Addr} {m c : Nat} {news : List Value} (hx : a.eval x = .slice A m c) (hr : Sl w size A m c news) (h1 : ∀ u ∈ news, u.oneCell' = true)
  (h63 : n + m ≤ 1000000000000) (hbyt : bytes ≤ 64) (hbase : base ≤ w.heap.size)
  (k : ∀ A' cap' w', w'.ownsRow base e size (.slice A' (n + m) cap') (n + m) (xs ++ news) → Below base w w' → w.grownBy w' v.ownBlock → ((Value.slice A' (n + m) cap').ownBlock = v.ownBlock ∨ (Value.slice A' (n + m) cap').ownBlock = some w.heap.size) → wpList P ops Q rest (a.put o.dst (.slice A' (n + m) cap')) w') :
  wpList P ops Q (o :: rest) a w := by
 obtain ⟨i, hi, hz, hsize, hby⟩ := info_parts hinfo
 obtain ⟨v', w', hrun, h2, h3, h4⟩ := run_append_sl (P := P) base t o.type e i z size bytes ht hi hz hsize hby hzs hsz v n xs hown A m c news hr h1 (by simp only [maxLen]; omega)
  (by have : (n + m) * bytes ≤ 1000000000000 * 64 := Nat.mul_le_mul h63 hbyt; omega) hbase
 have hlt := hown.lt
 refine wpList_run (Φ := fun v' w' => w'.ownsRow base e size v' (n + m) (xs ++ news) ∧ w.grownBy w' v.ownBlock ∧ (v'.ownBlock = v.ownBlock ∨ v'.ownBlock = some w.heap.size)) hw ⟨v', w', ?_, h2, h3, h4⟩ ?_
 ·simp only [execOp, ho, resolve, invoke, builtin, Sem.run_bind, Sem.run_pure, Result.andThen_ok, List.map_toArray, List.map_cons, List.map_nil, hs, hx, hrun]
 ·rintro v2 w2 ⟨g1, g2, g3⟩
  obtain ⟨A', cap', rfl, _⟩ := Sl.of_own g1 hsz
  exact k A' cap' w2 g1 ((Below.refl base w).grown g2 hbase (fun q hq => (hlt q hq).1)) g2 g3
end
theorem Sl.own {w : World} {base size n cap : Nat} {e : TypeId} {A : Option Addr} {xs : List Value} (h : w.ownsRow base e size (.slice A n cap) n xs) (hs : 0 < size) : Sl w size A n cap xs := by
 obtain ⟨A', cap', he, h⟩ := Sl.of_own h hs
 injection he with h1 h2 h3
 subst h1
 subst h3
 exact h
theorem Sl.lit (w : World) (g : Nat) (cs : List Value) (t : TypeId) (size n : Nat) (hg : w.heap.size = g) (hl : cs.length = n * size) (hn : n ≤ maxLen) : Sl (w.alloc (.cells cs.toArray t)) size (some ⟨g, 0, none⟩) n n cs :=
 ⟨hl, Nat.le_refl _, hn, fun _ => ⟨_, 0, rfl, by simp [hg], fun j u hu => by
  rw [Nat.zero_add, ← hg]
  exact (World.cell?_alloc_mark w cs.toArray t (0, 0) j).trans (by simpa using hu)⟩⟩
theorem one1 {u : Value} (h : u.oneCell' = true) : ∀ x ∈ [u], x.oneCell' = true := by simpa using h
theorem own_below {w w' : World} {base : Nat} {e : TypeId} {size : Nat} {v : Value} {n : Nat} {xs : List Value} (h : w.ownsRow base e size v n xs) (hb : Below w.heap.size w w') : w'.ownsRow base e size v n xs := by
 refine ⟨h.1, ?_⟩
 rcases h.2 with h2 | ⟨g, cap, cur, hv, hg, hh, r⟩
 ·exact Or.inl h2
 ·exact Or.inr ⟨g, cap, cur, hv, hg, by rw [hb.block g (Array.getElem?_eq_some_iff.1 hh).1]; exact hh, r⟩
theorem oneC (cs : List C) : ∀ u ∈ flatC cs, u.oneCell' = true := by
 intro u hu
 obtain ⟨c, _, h⟩ := List.mem_flatMap.1 hu
 simp [C.flat] at h
 rcases h with rfl | rfl | rfl <;> rfl
theorem oneI (k : IntKind) (ns : List Int) : ∀ u ∈ ns.map (Value.int k), u.oneCell' = true := by
 intro u hu
 obtain ⟨c, _, rfl⟩ := List.mem_map.1 hu
 rfl
end Go.Proofs.YtgipiplklaeplaaDoor
